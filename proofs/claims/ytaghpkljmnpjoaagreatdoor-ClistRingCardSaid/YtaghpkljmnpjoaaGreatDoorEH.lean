/- THE ABSTRACT INTERPRETER, PART 22: regions that draw their order: the rule. -/
import Derived.Test.YtaghpkljmnpjoaaGreatDoorEG
set_option linter.unusedVariables false
set_option linter.unusedSimpArgs false
noncomputable section
namespace Go.Ai
variable {ξ : Env}
/-- One operation of a region, wanted or not. -/
def OpAt (P : Program) (ops : Array Oper) (i : Nat) (a : Act) (w : World) (K : Act → World → Prop) : Prop :=
  match ops[i]? with
  | none => K a w
  | some o => if Region.wanted o (yielded ops a.tmps) then OW P o a w K else K (a.put o.dst undef) w
theorem OpAt.mono {P : Program} {ops : Array Oper} {i : Nat} {a : Act} {w : World} {K K' : Act → World → Prop} (h : OpAt P ops i a w K) (hk : ∀ a w, K a w → K' a w) : OpAt P ops i a w K' := by
  unfold OpAt at *
  split at h
  · exact hk _ _ h
  · split at h
    · rename_i hw; rw [if_pos hw]; exact h.mono hk
    · rename_i hw; rw [if_neg hw]; exact hk _ _ h
theorem RW.cons {P : Program} {ops : Array Oper} {i : Nat} {rest : List Nat} {b : Frame} {a : Act} {w : World} {K : Act → World → Prop} (h : OpAt P ops i a w (fun a' w' => RW P ops rest b a' w' K)) : RW P ops (i :: rest) b a w K := by
  unfold OpAt at h
  split at h
  · rename_i ho
    intro cs k
    obtain ⟨a2, w2, h3, h4⟩ := h cs k
    have hs := stepR_op_skip (P := P) (b := b) (a := a) (k := k) (cs := cs) (w := w) (ops := ops) (i := i) (rest := rest) (by simp [ho])
    rw [ho] at hs
    exact ⟨a2, w2, h3, .head hs h4⟩
  · rename_i o ho
    split at h
    · rename_i hw; exact RW.on ho hw h
    · rename_i hw; exact RW.off ho (by simpa using hw) h
/-- Any order that the edges allow. -/
def AnyW (P : Program) (ops : Array Oper) (K : Act → World → Prop) : Nat → Array Bool → Act → World → Prop
  | 0, listed, a, w => Region.ready .any ops listed = [] ∧ K a w
  | fuel + 1, listed, a, w =>
    (Region.ready .any ops listed = [] → K a w) ∧
    ∀ i ∈ Region.ready .any ops listed, OpAt P ops i a w (AnyW P ops K fuel (listed.setIfInBounds i true))
theorem AnyW.sound {P : Program} {ops : Array Oper} {K : Act → World → Prop} {b : Frame} : ∀ (fuel t : Nat) (listed : Array Bool) (a : Act) (w : World), AnyW P ops K fuel listed a w →
    RW P ops (Region.linearise.go .any ops fuel t listed []) b a w K := by
  intro fuel
  induction fuel with
  | zero => intro t listed a w h; exact RW.nil h.2
  | succ fuel ih =>
    intro t listed a w h
    obtain ⟨h₀, h₁⟩ := h
    simp only [Region.linearise.go]
    change RW P ops (match (Region.ready .any ops listed)[t % (Region.ready .any ops listed).length]? with
      | some i => Region.linearise.go .any ops fuel (t / (Region.ready .any ops listed).length) (listed.setIfInBounds i true) [i]
      | none => [].reverse) b a w K
    cases hi : (Region.ready .any ops listed)[t % (Region.ready .any ops listed).length]? with
    | none =>
      have hnil : Region.ready .any ops listed = [] := by
        cases hr : Region.ready .any ops listed with
        | nil => rfl
        | cons x xs =>
          rw [hr] at hi
          have hlt : t % (x :: xs).length < (x :: xs).length := Nat.mod_lt _ (by simp)
          simp at hi
          simp at hlt
          omega
      exact RW.nil (h₀ hnil)
    | some i =>
      simp only []
      rw [linearise_go_acc, List.reverse_singleton, List.singleton_append]
      exact RW.cons ((h₁ i (List.mem_of_getElem? hi)).mono (fun a w => ih _ _ a w))

section
variable {P : Program} {N : Nat} {ops : Array Oper} {pl : List PK} {C : Course} {e : Entry}

theorem Inv.ev (hR : Reg ξ P N ops.toList pl C) {L : Nat → Prop} {a : Act} {w : World} {k : Nat} {Φ : Nat → Option Obj} {μ : Nat → Pl} {fb : Nat → Nat} (hI : Inv ξ P N ops.toList pl C e L a w k Φ μ fb) (hT : Top pl C L k) {i : Nat} {o : Oper} {q : PK}
    (ho : ops.toList[i]? = some o) (hq : pl[i]? = some q) (hun : ¬ L i) (hall : ∀ e ∈ o.after.toList, Region.binds .any e = true → L e.on) : EV ξ Φ μ (C.H k).next a.eval (gather (C.F i) o) := by
  refine EV.of_tr (fun t x hx => ?_)
  obtain ⟨h1, h2⟩ := gatherL_lk hx
  exact hI.sees hR hT ho hq hun hall t (List.mem_append_left _ h1) x h2

theorem Inv.step (hR : Reg ξ P N ops.toList pl C) {L : Nat → Prop} {a : Act} {w : World} {k : Nat} {Φ : Nat → Option Obj} {μ : Nat → Pl} {fb : Nat → Nat} (hI : Inv ξ P N ops.toList pl C e L a w k Φ μ fb) (hT : Top pl C L k) {i : Nat} {o : Oper} {q : PK}
    (ho : ops.toList[i]? = some o) (hq : pl[i]? = some q) (hun : ¬ L i) (hall : ∀ e ∈ o.after.toList, Region.binds .any e = true → L e.on) {K : Act → World → Prop}
    (hK : ∀ a' w' k' Φ' μ' fb', Inv ξ P N ops.toList pl C e (fun j => j = i ∨ L j) a' w' k' Φ' μ' fb' → Top pl C (fun j => j = i ∨ L j) k' → K a' w') : OpAt P ops i a w K := by
  have hAt := hR.at' i o q ho hq
  have ho' : ops[i]? = some o := by simpa using ho
  have hw := wantA_slot (hI.sees hR hT ho hq hun hall) hAt.1
  have hE := hI.ev hR hT ho hq hun hall
  have hms : ∃ m, (masks ops.toList [])[i]? = some m := by
    have := (masks_spec (l := ops.toList) (acc := [])).1
    have h1 := (List.getElem?_eq_some_iff.1 ho).1
    have hi : i < (masks ops.toList []).length := by simp at this; simp at h1; omega
    exact ⟨_, List.getElem?_eq_getElem hi⟩
  obtain ⟨m, hm⟩ := hms
  have bit : ∀ j, bitOf (masks ops.toList []) i j = true → L j := fun j hj => by
    simp only [bitOf, List.getD_eq_getElem?_getD, hm, Option.getD_some] at hj
    exact mask_in hI.shut i o m j ho hm hall hj
  have fin : ∀ {a' w' k' Φ' μ' fb'}, Inv ξ P N ops.toList pl C e (fun j => j = i ∨ L j) a' w' k' Φ' μ' fb' → K a' w' := fun h => by
    obtain ⟨k2, Φ2, μ2, h2, h3⟩ := Inv.advance hR _ (Nat.le_refl _) h
    exact hK _ _ _ _ _ _ h2 h3
  -- an operation that leaves the world as it is
  have still : ∀ v, q ≠ .e → (q = .f → C.w i = true → False) → V ξ Φ μ (C.H k).next v (C.z i) → K (a.put o.dst v) w := fun v hne hf hv => by
    obtain ⟨fb', h⟩ := hI.list hR (k' := k) (v := v) ho hq hun hall (.inr ⟨hne, rfl⟩) hI.r (T.refl _ _ _ _) (fun _ => hv) (fun b h1 h2 _ _ => (hf h1 h2).elim)
    exact fin h
  unfold OpAt
  rw [ho']
  simp only
  rw [hw]
  cases hwi : C.w i with
  | false =>
    rw [if_neg (by simp)]
    obtain ⟨hz, hH⟩ := hAt.2.2.2.1 hwi
    have hvz : ∀ n, V ξ Φ μ n undef (C.z i) := fun n => by rw [hz]; exact .tuple _ [] [] rfl (fun j v a h => by simp at h)
    by_cases hqe : q = .e
    · subst hqe
      have hs := hI.stage hR hT ho hq hun bit
      have hH := hH rfl
      rw [hs] at hH
      obtain ⟨fb', h⟩ := hI.list hR (k' := k + 1) (v := undef) ho hq hun hall (.inl ⟨rfl, by simp, rfl, hs⟩) (by rw [hH]; exact hI.r) (by rw [hH]; exact T.refl Φ μ _ _) (fun _ => hvz _) (fun b h1 => by cases h1)
      exact fin h
    · exact still undef hqe (fun _ h => by rw [hwi] at h; cases h) (hvz _)
  | true =>
    rw [if_pos rfl]
    have hk := hAt.2.2.2.2 hwi
    cases q with
    | p =>
      have hR0 : R ξ Φ μ ⟨.nil, (C.H k).next, []⟩ w := hI.r.forget rfl (fun i o h => by rw [AH.get, PT.get_nil] at h; cases h) (fun g cs h => by cases h)
      obtain ⟨v, h1, h2⟩ := (hk (C.H k).next).2 Φ μ w a hR0 hE
      exact OW.value (hk 0).1 h1 (still v (by simp) (fun h => by cases h) h2)
    | r lo hi =>
      have hlo : lo ≤ k := by
        rcases hR.ok.lo i lo hi hq with h | ⟨j, hj, hje, hjb, hjl⟩
        · omega
        · have hL := bit j hjb
          rcases Nat.lt_or_ge (C.s j) k with h | h
          · rw [hR.cnt (Nat.le_of_lt (hR.lt hje))] at h; omega
          · exact absurd hL (hI.above j hje h)
      have hhi : k ≤ hi := by
        rcases hR.ok.hi i lo hi hq with h | ⟨l, kl, hl, hlef, hlb, hlh⟩
        · have := hI.bound
          rw [hR.cnt (Nat.le_refl _)] at this; omega
        · rcases Nat.lt_or_ge (C.s l) k with h | h
          · exfalso
            have hL := hI.below l kl hl hlef h
            obtain ⟨ol, hol⟩ := hR.kd' hl
            have hml : ∃ m, (masks ops.toList [])[l]? = some m := by
              have := (masks_spec (l := ops.toList) (acc := [])).1
              have h1 := (List.getElem?_eq_some_iff.1 hol).1
              have hi : l < (masks ops.toList []).length := by simp at this; simp at h1; omega
              exact ⟨_, List.getElem?_eq_getElem hi⟩
            obtain ⟨ml, hml⟩ := hml
            simp only [bitOf, List.getD_eq_getElem?_getD, hml, Option.getD_some] at hlb
            exact hun (mask_in hI.shut l ol ml i hol hml (hI.shut l ol hol hL) hlb)
          · rw [hR.cnt (Nat.le_of_lt (hR.lt hl))] at h; omega
      have hps := hk k hlo hhi hI.bound
      obtain ⟨v, h1, h2⟩ := hps.2 Φ μ w a hI.r hE
      exact OW.value hps.1 h1 (still v (by simp) (fun h => by cases h) h2)
    | e =>
      have hs := hI.stage hR hT ho hq hun bit
      have hk : ES ξ P o (gather (C.F i) o) (C.H (C.s i)) (C.z i) (C.H (C.s i + 1)) := hk
      rw [hs] at hk
      refine hk Φ μ w a _ hI.r hE (fun v w' Φ' μ' z' H' hz' hv hR' hT' => ?_)
      obtain ⟨rfl, rfl⟩ := hz'
      obtain ⟨fb', h⟩ := hI.list hR (k' := k + 1) (v := v) ho hq hun hall (.inl ⟨rfl, by simp, rfl, hs⟩) hR' hT' (fun _ => hv) (fun b h1 => by cases h1)
      exact fin h
    | f =>
      obtain ⟨cs, sh, ⟨hfit, hnd, hrun⟩, hz, hH⟩ := hk
      obtain ⟨vs, t, h1, h2⟩ := hrun Φ μ (C.H k).next w a hE
      refine OW.value hnd h1 ?_
      obtain ⟨g1, g2⟩ := garbage (w' := w.alloc (.cells (List.toArray vs) t)) hI.r (by simp) (fun b hb => alloc_old w _ b hb) rfl rfl rfl
      have hge : ¬ C.s i < k := fun h => hun (hI.below i .f hq rfl h)
      have hEarly : ∀ b, o.dst = some b → Early ξ C e (a.put o.dst (sh.val w.heap.size)) (w.alloc (.cells (List.toArray vs) t)) k Φ μ i b w.heap.size := fun b hd => by
        have hdn : b < a.tmps.size := by rw [hI.n]; exact okDst_spec hR.ok.dst o (List.mem_of_getElem? ho) b hd
        refine ⟨⟨cs, sh, vs, t, hfit, hz, hH, by rw [hd]; exact put_same hdn, alloc_new w _, h2⟩, hI.t.size, ?_, fun j o hj he => ?_⟩
        · cases hp : Φ w.heap.size with
          | none => rfl
          | some ob =>
            have := hI.r.frz _ _ hp
            simp at this
        · have := hI.r.block_lt hj; omega
      obtain ⟨fb', h⟩ := hI.list hR (k' := k) (v := sh.val w.heap.size) ho hq hun hall (.inr ⟨by simp, rfl⟩) g1 g2 (fun h => absurd (h rfl hwi) hge) (fun b _ _ _ hd => hEarly b hd)
      exact fin h

/-- What is listed. -/
def Ls (listed : Array Bool) (j : Nat) : Prop := listed.getD j false = true
theorem Ls_set {listed : Array Bool} {i : Nat} (hi : i < listed.size) : (fun j => j = i ∨ Ls listed j) = Ls (listed.setIfInBounds i true) := by
  funext j
  simp only [Ls, Array.getD_eq_getD_getElem?, eq_iff_iff]
  rw [Array.getElem?_setIfInBounds]
  by_cases h : i = j
  · subst h; simp [hi]
  · rw [if_neg h]
    constructor
    · rintro (h' | h')
      · exact absurd h'.symm h
      · exact h'
    · exact .inr

theorem Inv.any (hR : Reg ξ P N ops.toList pl C) {W : Act → World → Prop} {K : AF → AH → Prop} (hK : K (C.F ops.toList.length) (C.H (C.s ops.toList.length)))
    (hW : ∀ F H a w, Sim ξ e N F H a w → K F H → W a w) : ∀ (fuel : Nat) (listed : Array Bool) (a : Act) (w : World) (k : Nat) (Φ : Nat → Option Obj) (μ : Nat → Pl) (fb : Nat → Nat), listed.size = ops.size →
      listed.toList.countP (fun b => !b) ≤ fuel → Inv ξ P N ops.toList pl C e (Ls listed) a w k Φ μ fb → Top pl C (Ls listed) k → AnyW P ops W fuel listed a w := by
  -- when nothing is ready, all is done
  have done : ∀ (listed : Array Bool) (a : Act) (w : World) (k : Nat) (Φ : Nat → Option Obj) (μ : Nat → Pl) (fb : Nat → Nat), listed.size = ops.size → Inv ξ P N ops.toList pl C e (Ls listed) a w k Φ μ fb → Top pl C (Ls listed) k → (∀ i, i < ops.toList.length → Ls listed i) → W a w := by
    intro listed a w k Φ μ fb hsz hI hT hall
    have hk : k = C.s ops.toList.length := by
      rcases Nat.lt_or_ge k (C.s ops.toList.length) with h | h
      · obtain ⟨i, q, h1, h2, h3, h4⟩ := hR.hit (Nat.le_refl _) h
        exact absurd (hall i (hR.lt h2)) (hT i q h2 h3 h4)
      · have := hI.bound; omega
    subst hk
    refine hW _ _ a w ⟨Φ, μ, ⟨fun t x hx => ?_, by rw [hR.d (Nat.le_refl _)]; exact hI.dr, hI.r, hI.t, hI.n⟩⟩ hK
    rcases hR.slot (Nat.le_refl _) hx with ⟨j, oj, hj, hoj, hdj, rfl⟩ | ⟨h0, hno⟩
    · exact hI.new j oj t hoj (hall j hj) hdj (fun hf _ => hR.strict hf rfl (hR.lt hf) (Nat.le_refl _))
    · exact hI.old t x h0 (fun j oj hoj _ => hno j oj (List.getElem?_eq_some_iff.1 hoj).1 hoj)
  have all_of_ready : ∀ (listed : Array Bool), listed.size = ops.size → Region.ready .any ops listed = [] → ∀ i, i < ops.toList.length → Ls listed i := by
    intro listed hsz hr i
    induction i using Nat.strongRecOn with
    | _ i ih =>
      intro hi
      cases hl : listed.getD i true with
      | true =>
        simp only [Ls, Array.getD_eq_getD_getElem?] at hl ⊢
        cases hq : listed[i]? with
        | none => have := Array.getElem?_eq_none_iff.1 hq; simp at hi; omega
        | some b => rw [hq] at hl; exact hl
      | false =>
        exfalso
        have ho : ops[i]? = some ops.toList[i] := by simp at hi ⊢
        have hmem : i ∈ Region.ready .any ops listed := by
          rw [mem_ready]
          refine ⟨hl, _, ho, fun e he hb => ?_⟩
          have hlt := hR.ok.back i ops.toList[i] (List.getElem?_eq_getElem hi) e (by simpa using he) hb
          exact ih e.on hlt (by omega)
        rw [hr] at hmem; cases hmem
  intro fuel
  induction fuel with
  | zero =>
    intro listed a w k Φ μ fb hsz hc hI hT
    have hz : ∀ i, i < ops.toList.length → Ls listed i := fun i hi => by
      have hcnt : listed.toList.countP (fun b => !b) = 0 := by omega
      rw [List.countP_eq_zero] at hcnt
      have hi' : i < listed.size := by simp at hi; omega
      have := hcnt listed[i] (by simp)
      simp only [Ls, Array.getD_eq_getD_getElem?, Array.getElem?_eq_getElem hi', Option.getD_some]
      simpa using this
    refine ⟨?_, done listed a w k Φ μ fb hsz hI hT hz⟩
    cases hr : Region.ready .any ops listed with
    | nil => rfl
    | cons i r =>
      exfalso
      have hm : i ∈ Region.ready .any ops listed := by rw [hr]; exact List.mem_cons_self
      obtain ⟨h1, o, ho, _⟩ := mem_ready.1 hm
      have hi : i < ops.toList.length := by have := (Array.getElem?_eq_some_iff.1 ho).1; simpa using this
      have h2 := hz i hi
      simp only [Ls, Array.getD_eq_getD_getElem?] at h1 h2
      cases hq : listed[i]? with
      | none => rw [hq] at h2; cases h2
      | some b => rw [hq] at h1 h2; simp only [Option.getD_some] at h1 h2; rw [h1] at h2; cases h2
  | succ fuel ih =>
    intro listed a w k Φ μ fb hsz hc hI hT
    refine ⟨fun hr => done listed a w k Φ μ fb hsz hI hT (all_of_ready listed hsz hr), fun i hi => ?_⟩
    obtain ⟨h1, o, ho, hall⟩ := mem_ready.1 hi
    have hi' : i < ops.toList.length := by have := (Array.getElem?_eq_some_iff.1 ho).1; simpa using this
    have hil : i < listed.size := by simp at hi'; omega
    obtain ⟨o', q, ho', hq⟩ := hR.kd hi'
    have hoo : o' = o := by
      have : ops.toList[i]? = some o := by simpa using ho
      rw [this] at ho'; cases ho'; rfl
    subst hoo
    have hli : listed[i] = false := by
      simp only [Array.getD_eq_getD_getElem?, Array.getElem?_eq_getElem hil, Option.getD_some] at h1
      exact h1
    refine hI.step hR hT ho' hq (fun h => ?_) (fun e he hb => hall e (by simpa using he) hb) (fun a' w' k' Φ' μ' fb' hI' hT' => ?_)
    · simp only [Ls, Array.getD_eq_getD_getElem?, Array.getElem?_eq_getElem hil, Option.getD_some, hli] at h
      cases h
    · rw [Ls_set hil] at hI' hT'
      refine ih _ a' w' k' Φ' μ' fb' (by simp [hsz]) ?_ hI' hT'
      have hlt : i < listed.toList.length := by simpa using hil
      have := List.countP_set (p := fun b => !b) (a := true) hlt
      rw [Array.toList_setIfInBounds, this]
      have h2 : listed.toList[i] = false := by simpa using hli
      have hpos : 0 < listed.toList.countP (fun b => !b) := List.countP_pos_iff.2 ⟨false, by rw [← h2]; exact List.getElem_mem _, rfl⟩
      rw [h2]
      simp only [Bool.not_false, if_true, Bool.not_true, Bool.false_eq_true, if_false]
      omega
end

/-- A region that draws its order. -/
theorem AG.draw {P : Program} {N : Nat} {rnd : Option Nat} {Q : Option Code → AF → AH → Prop} {k : List Item} {F : AF} {H : AH} {id : Nat} {ops : Array Oper} (pl : List PK) (hm : P.follows .mixedOrders = true) (hok : okDraw N ops.toList pl = true)
    (h : ADs ξ P ops.toList (AG ξ P N rnd Q k) (ops.toList.zip pl) F H [] []) : AG ξ P N rnd Q (.code (.region id ops true) :: k) F H := by
  intro e b cs a w hme hS
  obtain ⟨Φ, μ, hS1⟩ := hS
  obtain ⟨C, c1, c2, c3, c4, _, c6⟩ := ADs.course h
  have hOk := okDraw_spec hok
  have hzl : (ops.toList.zip pl).length = ops.toList.length := by rw [List.length_zip, hOk.len, Nat.min_self]
  rw [hzl] at c4 c6
  have hReg : Reg ξ P N ops.toList pl C := ⟨hOk, c2, fun i o q ho hq => c4 i o q (by rw [List.getElem?_zip_eq_some]; exact ⟨ho, hq⟩)⟩
  have hH0 : C.H 0 = H := c3 0 H (by simp)
  have hno : ∀ j, ¬ Ls (Array.replicate ops.size false) j := fun j h => by
    simp only [Ls, Array.getD_eq_getD_getElem?, Array.getElem?_replicate] at h
    split at h <;> cases h
  have hI : Inv ξ P N ops.toList pl C e (Ls (Array.replicate ops.size false)) a { w with drawn := w.drawn + 1 } 0 Φ μ (fun _ => 0) := by
    refine ⟨fun i o _ h => absurd h (hno i), fun i q _ _ h => by omega, fun i _ _ => hno i, Nat.zero_le _, fun t x hx _ => ?_, fun i o t _ h => absurd h (hno i), fun i o t _ _ _ h => absurd h (hno i), fun i j _ _ h => absurd h (hno i), ?_, ?_, ?_, hS1.n⟩
    · rw [c1] at hx; rw [hH0]; exact hS1.tr t x hx
    · rw [c1, hH0]; exact hS1.dr
    · rw [hH0]; exact hS1.r.drew rfl
    · rw [hH0]; exact hS1.t.trans (T.drew rfl rfl rfl rfl)
  have hT : Top pl C (Ls (Array.replicate ops.size false)) 0 := fun i q _ _ _ => hno i
  have hany := Inv.any hReg (W := fun a' w' => ∃ F' H', Sim ξ e N F' H' a' w' ∧ AG ξ P N rnd Q k F' H') (K := AG ξ P N rnd Q k) (e := e) c6 (fun F' H' a' w' h1 h2 => ⟨F', H', h1, h2⟩) ops.size (Array.replicate ops.size false) a { w with drawn := w.drawn + 1 } 0 Φ μ (fun _ => 0) (by simp)
    (by simp [List.countP_replicate]) hI hT
  have hsch : Region.schedule (P.follows .mixedOrders) ops (w.tape w.drawn (.order b.fn id)) = Region.linearise.go .any ops ops.size (w.tape w.drawn (.order b.fn id)) (Array.replicate ops.size false) [] := by
    simp only [Region.schedule, hm, Bool.true_or, if_true, Region.linearise]
  obtain ⟨a', w', ⟨F', H', h1, h2⟩, h3⟩ := AnyW.sound (b := b) ops.size (w.tape w.drawn (.order b.fn id)) _ _ _ hany cs k
  obtain ⟨a2, w2, todo, j, F2, H2, g1, g2⟩ := h2 e b cs a' w' hme h1
  refine ⟨a2, w2, todo, j, F2, H2, .head stepR_region_draw ?_, g2⟩
  rw [hsch]
  exact Steps.trans h3 (.head stepR_region_end g1)
end Go.Ai
end
