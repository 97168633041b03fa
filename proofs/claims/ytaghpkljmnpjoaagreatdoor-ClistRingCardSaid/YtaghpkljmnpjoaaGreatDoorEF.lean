/- THE ABSTRACT INTERPRETER, PART 20: regions that draw their order: the invariant. -/
import Derived.Test.YtaghpkljmnpjoaaGreatDoorEE
set_option linter.unusedVariables false
set_option linter.unusedSimpArgs false
noncomputable section
namespace Go.Ai
variable {ξ : Env}

theorem cntE_succ : ∀ {pl : List PK} {i : Nat} {k : PK}, pl[i]? = some k → cntE pl (i + 1) = cntE pl i + (if k.ef then 1 else 0)
  | [], i, k, h => by simp at h
  | q :: r, 0, k, h => by simp at h; subst h; cases r <;> simp [cntE]
  | q :: r, i + 1, k, h => by
    simp only [List.getElem?_cons_succ] at h
    have := cntE_succ h
    simp only [cntE] at this ⊢
    omega

/-- A region and its course. -/
structure Reg (ξ : Env) (P : Program) (N : Nat) (ops : List Oper) (pl : List PK) (C : Course) : Prop where
  ok : Okd N ops pl
  s0 : C.s 0 = 0
  at' : ∀ (i : Nat) o k, ops[i]? = some o → pl[i]? = some k → C.At ξ P ops (C.s ops.length) i o k

section
variable {P : Program} {N : Nat} {ops : List Oper} {pl : List PK} {C : Course}

theorem Reg.kd (h : Reg ξ P N ops pl C) {i : Nat} (hi : i < ops.length) : ∃ o k, ops[i]? = some o ∧ pl[i]? = some k := by
  have := h.ok.len
  exact ⟨ops[i], pl[i]'(by omega), by simp [hi], by simp [this, hi]⟩
theorem Reg.kd' (h : Reg ξ P N ops pl C) {i : Nat} {k : PK} (hk : pl[i]? = some k) : ∃ o, ops[i]? = some o := by
  have := (List.getElem?_eq_some_iff.1 hk).1
  rw [h.ok.len] at this
  exact ⟨ops[i], by simp [this]⟩
theorem Reg.succ (h : Reg ξ P N ops pl C) {i : Nat} {k : PK} (hk : pl[i]? = some k) : C.s (i + 1) = C.s i + (if k.ef then 1 else 0) := by
  obtain ⟨o, ho⟩ := h.kd' hk
  exact (h.at' i o k ho hk).2.2.1
theorem Reg.mono (h : Reg ξ P N ops pl C) : ∀ {i j : Nat}, i ≤ j → j ≤ ops.length → C.s i ≤ C.s j := by
  intro i j hij hj
  induction j with
  | zero => simp at hij; subst hij; exact Nat.le_refl _
  | succ j ih =>
    rcases Nat.lt_or_ge i (j + 1) with h' | h'
    · obtain ⟨o, k, _, hk⟩ := h.kd (i := j) (by omega)
      have := h.succ hk
      have := ih (by omega) (by omega)
      omega
    · have : i = j + 1 := by omega
      subst this; exact Nat.le_refl _
theorem Reg.strict (h : Reg ξ P N ops pl C) {i j : Nat} {k : PK} (hk : pl[i]? = some k) (hef : k.ef = true) (hij : i < j) (hj : j ≤ ops.length) : C.s i < C.s j := by
  have h1 := h.succ hk
  rw [hef] at h1
  have := h.mono (i := i + 1) (j := j) hij hj
  simp at h1; omega
theorem Reg.lt (h : Reg ξ P N ops pl C) {i : Nat} {k : PK} (hk : pl[i]? = some k) : i < ops.length := by
  have := (List.getElem?_eq_some_iff.1 hk).1
  rw [h.ok.len] at this; exact this
theorem Reg.inj (h : Reg ξ P N ops pl C) {i j : Nat} {k q : PK} (hk : pl[i]? = some k) (hq : pl[j]? = some q) (h1 : k.ef = true) (h2 : q.ef = true) (he : C.s i = C.s j) : i = j := by
  rcases Nat.lt_trichotomy i j with h' | h' | h'
  · have := h.strict hk h1 h' (Nat.le_of_lt (h.lt hq)); omega
  · exact h'
  · have := h.strict hq h2 h' (Nat.le_of_lt (h.lt hk)); omega
theorem Reg.hit (h : Reg ξ P N ops pl C) : ∀ {n k : Nat}, n ≤ ops.length → k < C.s n → ∃ i q, i < n ∧ pl[i]? = some q ∧ q.ef = true ∧ C.s i = k
  | 0, k, hn, hk => by rw [h.s0] at hk; omega
  | n + 1, k, hn, hk => by
    obtain ⟨o, q, _, hq⟩ := h.kd (i := n) (by omega)
    have hs := h.succ hq
    rcases Nat.lt_or_ge k (C.s n) with h' | h'
    · obtain ⟨i, q', h1, h2, h3, h4⟩ := h.hit (n := n) (by omega) h'
      exact ⟨i, q', by omega, h2, h3, h4⟩
    · cases hef : q.ef <;> rw [hef] at hs <;> simp at hs
      · omega
      · exact ⟨n, q, by omega, hq, hef, by omega⟩
theorem Reg.cnt (h : Reg ξ P N ops pl C) : ∀ {i : Nat}, i ≤ ops.length → C.s i = cntE pl i
  | 0, _ => by rw [h.s0]; cases pl <;> rfl
  | i + 1, hi => by
    obtain ⟨o, k, _, hk⟩ := h.kd (i := i) (by omega)
    rw [h.succ hk, cntE_succ hk, h.cnt (by omega)]

/-- What a slot holds before operation i, in the order of the text. -/
theorem Reg.slot (h : Reg ξ P N ops pl C) : ∀ {i : Nat} {t : Nat} {x : AV}, i ≤ ops.length → lk (C.F i).t t = some x →
    (∃ j o, j < i ∧ ops[j]? = some o ∧ o.dst = some t ∧ x = C.z j) ∨ (lk (C.F 0).t t = some x ∧ ∀ j o, j < i → ops[j]? = some o → o.dst ≠ some t)
  | 0, t, x, _, hx => .inr ⟨hx, fun j o hj => by omega⟩
  | i + 1, t, x, hi, hx => by
    obtain ⟨o, k, ho, hk⟩ := h.kd (i := i) (by omega)
    have hF := (h.at' i o k ho hk).2.1
    rw [hF] at hx
    have old : lk (C.F i).t t = some x → o.dst ≠ some t → (∃ j o, j < i + 1 ∧ ops[j]? = some o ∧ o.dst = some t ∧ x = C.z j) ∨ (lk (C.F 0).t t = some x ∧ ∀ j o, j < i + 1 → ops[j]? = some o → o.dst ≠ some t) := fun hx hne => by
      rcases h.slot (by omega) hx with ⟨j, o', h1, h2, h3, h4⟩ | ⟨h1, h2⟩
      · exact .inl ⟨j, o', by omega, h2, h3, h4⟩
      · refine .inr ⟨h1, fun j o' hj ho' => ?_⟩
        rcases Nat.lt_or_ge j i with h' | h'
        · exact h2 j o' h' ho'
        · have : j = i := by omega
          subst this
          rw [ho] at ho'; cases ho'; exact hne
    cases hd : o.dst with
    | none =>
      rw [hd] at hx
      exact old hx (by rw [hd]; simp)
    | some d =>
      rw [hd] at hx
      simp only [AF.put, lk_cons] at hx
      split at hx
      · rename_i e
        subst e
        cases hx
        exact .inl ⟨i, o, by omega, ho, hd, rfl⟩
      · rename_i e
        exact old hx (by rw [hd]; simpa using e)
theorem Reg.d (h : Reg ξ P N ops pl C) : ∀ {i : Nat}, i ≤ ops.length → (C.F i).d = (C.F 0).d
  | 0, _ => rfl
  | i + 1, hi => by
    obtain ⟨o, k, ho, hk⟩ := h.kd (i := i) (by omega)
    rw [(h.at' i o k ho hk).2.1, ← h.d (i := i) (by omega)]
    cases o.dst <;> rfl

/-- A row that was made ahead of its place. -/
structure Early (ξ : Env) (C : Course) (e : Entry) (a : Act) (w : World) (k : Nat) (Φ : Nat → Option Obj) (μ : Nat → Pl) (i d b : Nat) : Prop where
  row : ∃ cs sh vs t, Shp.fits sh cs.length ∧ C.z i = Shp.av sh (C.H (C.s i)).next ∧ C.H (C.s i + 1) = (C.H (C.s i)).push (.cells false cs) ∧ a.tmps[d]? = some (Shp.val sh b) ∧
    w.heap[b]? = some (.cells (List.toArray vs) t) ∧ Vs ξ Φ μ (C.H k).next vs cs
  new : e.w.heap.size ≤ b
  phi : Φ b = none
  own : ∀ j o, (C.H k).get j = some o → (μ j).block ≠ b

structure Inv (ξ : Env) (P : Program) (N : Nat) (ops : List Oper) (pl : List PK) (C : Course) (e : Entry) (L : Nat → Prop) (a : Act) (w : World) (k : Nat) (Φ : Nat → Option Obj) (μ : Nat → Pl) (fb : Nat → Nat) : Prop where
  shut : Shut ops L
  below : ∀ (i : Nat) q, pl[i]? = some q → q.ef = true → C.s i < k → L i
  above : ∀ (i : Nat), pl[i]? = some .e → k ≤ C.s i → ¬ L i
  bound : k ≤ C.s ops.length
  old : ∀ t x, lk (C.F 0).t t = some x → (∀ (i : Nat) o, ops[i]? = some o → L i → o.dst ≠ some t) → ∃ v, a.tmps[t]? = some v ∧ V ξ Φ μ (C.H k).next v x
  new : ∀ (i : Nat) o t, ops[i]? = some o → L i → o.dst = some t → (pl[i]? = some .f → C.w i = true → C.s i < k) → ∃ v, a.tmps[t]? = some v ∧ V ξ Φ μ (C.H k).next v (C.z i)
  early : ∀ (i : Nat) o t, pl[i]? = some .f → ops[i]? = some o → C.w i = true → L i → k ≤ C.s i → o.dst = some t → Early ξ C e a w k Φ μ i t (fb i)
  apart : ∀ (i j : Nat), pl[i]? = some .f → pl[j]? = some .f → L i → L j → i ≠ j → k ≤ C.s i → k ≤ C.s j → C.w i = true → C.w j = true → fb i ≠ fb j
  dr : DR ξ Φ μ (C.H k).next a.defers (C.F 0).d
  r : R ξ Φ μ (C.H k) w
  t : T e.Φ e.μ e.H e.w Φ μ (C.H k) w
  n : a.tmps.size = N

/-- No operation that is listed waits for its place. -/
def Top (pl : List PK) (C : Course) (L : Nat → Prop) (k : Nat) : Prop := ∀ (i : Nat) q, pl[i]? = some q → q.ef = true → C.s i = k → ¬ L i

/-- A row that is there is taken among the objects. -/
theorem R.adopt {Φ : Nat → Option Obj} {μ : Nat → Pl} {H : AH} {w : World} (h : R ξ Φ μ H w) {b : Nat} {vs : List Value} {t : TypeId} {cs : List AV} (hb : w.heap[b]? = some (.cells vs.toArray t)) (hv : Vs ξ Φ μ H.next vs cs) (hΦ : Φ b = none)
    (hown : ∀ j o, H.get j = some o → (μ j).block ≠ b) : R ξ Φ (upd μ H.next ⟨b, 0, vs.length⟩) (H.push (.cells false cs)) w where
  obj i o hi := by
    rw [AH.get_push] at hi
    split at hi
    · rename_i e
      simp only [Option.some.injEq] at hi
      subst e; subst hi
      rw [upd_same]
      exact ⟨vs.toArray, t, vs, hb, by simp, by have := hv.1; simp; omega, fun j v hj => by simpa using hj, hv.mono (fun _ _ h => h) (Nat.le_succ _) (fun i hi => upd_other _ _ _ _ (Nat.ne_of_lt hi))⟩
    · rename_i e
      rw [upd_other _ _ _ _ (Ne.symm e)]
      exact (h.obj i o hi).mono (fun _ _ h => h) (Nat.le_succ _) (fun j hj => upd_other _ _ _ _ (Nat.ne_of_lt hj)) rfl
  lt i o hi := by
    rw [AH.get_push] at hi
    split at hi
    · rename_i e; rw [← e]; exact Nat.lt_succ_self _
    · exact Nat.lt_succ_of_lt (h.lt i o hi)
  inj i j x y hi hj hne := by
    rw [AH.get_push] at hi hj
    split at hi <;> split at hj
    · rename_i e1 e2; exact absurd (e1.symm.trans e2) hne
    · rename_i e1 e2
      rw [← e1, upd_same, upd_other _ _ _ _ (Ne.symm e2)]
      exact (hown j _ hj).symm
    · rename_i e1 e2
      rw [← e2, upd_same, upd_other _ _ _ _ (Ne.symm e1)]
      exact hown i _ hi
    · rename_i e1 e2
      rw [upd_other _ _ _ _ (Ne.symm e1), upd_other _ _ _ _ (Ne.symm e2)]
      exact h.inj i j x y hi hj hne
  frz := h.frz
  dis i x b' ob hi hb' := by
    rw [AH.get_push] at hi
    split at hi
    · rename_i e
      rw [← e, upd_same]
      exact fun he => by
        simp only at he
        rw [← he, hΦ] at hb'; cases hb'
    · rename_i e
      rw [upd_other _ _ _ _ (Ne.symm e)]
      exact h.dis i x b' ob hi hb'
  glob g cs hg := glob_mono (fun _ _ h => h) (h.glob g cs hg)
theorem T.adopt {Φ₀ Φ : Nat → Option Obj} {μ₀ μ : Nat → Pl} {H₀ H : AH} {w₀ w : World} (h : T Φ₀ μ₀ H₀ w₀ Φ μ H w) {b k : Nat} {o : AObj} (hb : w₀.heap.size ≤ b) : T Φ₀ μ₀ H₀ w₀ Φ (upd μ H.next ⟨b, 0, k⟩) (H.push o) w where
  phi := h.phi
  mu i hi := (upd_other _ _ _ _ (by have := h.next; omega)).trans (h.mu i hi)
  next := Nat.le_trans h.next (Nat.le_succ _)
  size := h.size
  os := h.os
  tape := h.tape
  output := h.output
  same := h.same
  own i o' hi := by
    rw [AH.get_push] at hi
    split at hi
    · rename_i e; rw [← e, upd_same]; exact .inr hb
    · rename_i e; rw [upd_other _ _ _ _ (Ne.symm e)]; exact h.own i o' hi
  kno := h.kno
theorem Shp.ok {Φ : Nat → Option Obj} {μ : Nat → Pl} {n b k : Nat} {s : Shp} (hf : s.fits k) : V ξ Φ (upd μ n ⟨b, 0, k⟩) (n + 1) (s.val b) (s.av n) := by
  cases s with
  | ptr =>
    have := V.ptr (ξ := ξ) (Φ := Φ) (μ := upd μ n ⟨b, 0, k⟩) (n + 1) n 0 (Nat.lt_succ_self _)
    rw [upd_same] at this; exact this
  | slice len esz ag =>
    have := V.slice (ξ := ξ) (Φ := Φ) (μ := upd μ n ⟨b, 0, k⟩) (n + 1) n 0 len esz ag len (some len) (Nat.lt_succ_self _) (fun k hk => by simpa using hk) (Nat.le_refl _) (by rw [upd_same]; have h : len * esz ≤ k := hf; simpa using h)
    rw [upd_same] at this; exact this

/-- Rows made ahead come to their place. -/
theorem Inv.advance (hR : Reg ξ P N ops pl C) {e : Entry} {L : Nat → Prop} {a : Act} {w : World} {fb : Nat → Nat} : ∀ (r : Nat) {k : Nat} {Φ : Nat → Option Obj} {μ : Nat → Pl}, C.s ops.length - k ≤ r → Inv ξ P N ops pl C e L a w k Φ μ fb →
    ∃ k' Φ' μ', Inv ξ P N ops pl C e L a w k' Φ' μ' fb ∧ Top pl C L k' := by
  intro r
  induction r with
  | zero =>
    intro k Φ μ hr hI
    refine ⟨k, Φ, μ, hI, fun i q hq hef hs => ?_⟩
    have := hR.strict hq hef (hR.lt hq) (Nat.le_refl _)
    omega
  | succ r ih =>
    intro k Φ μ hr hI
    by_cases htop : Top pl C L k
    · exact ⟨k, Φ, μ, hI, htop⟩
    · simp only [Top, Classical.not_forall, Classical.not_not] at htop
      obtain ⟨i, q, hq, hef, hs, hL⟩ := htop
      have hlt := hR.strict hq hef (hR.lt hq) (Nat.le_refl _)
      have hqf : q = .f := by
        cases q with
        | p => cases hef
        | r lo hi => cases hef
        | e => exact absurd hL (hI.above i hq (by omega))
        | f => rfl
      subst hqf
      obtain ⟨o, ho⟩ := hR.kd' hq
      obtain ⟨d, hd⟩ := hR.ok.f0 i o ho hq
      have hAt := hR.at' i o .f ho hq
      -- the common part
      have go : ∀ {Φ' : Nat → Option Obj} {μ' : Nat → Pl}, R ξ Φ' μ' (C.H (k + 1)) w → T e.Φ e.μ e.H e.w Φ' μ' (C.H (k + 1)) w → (∀ v x, V ξ Φ μ (C.H k).next v x → V ξ Φ' μ' (C.H (k + 1)).next v x) →
          DR ξ Φ' μ' (C.H (k + 1)).next a.defers (C.F 0).d → (∃ v, a.tmps[d]? = some v ∧ V ξ Φ' μ' (C.H (k + 1)).next v (C.z i)) →
          (∀ (j : Nat) t, j ≠ i → k + 1 ≤ C.s j → C.w j = true → pl[j]? = some .f → L j → Early ξ C e a w k Φ μ j t (fb j) → Early ξ C e a w (k + 1) Φ' μ' j t (fb j)) →
          ∃ k' Φ' μ', Inv ξ P N ops pl C e L a w k' Φ' μ' fb ∧ Top pl C L k' := by
        intro Φ' μ' g1 g2 g3 g4 g5 g6
        refine ih (k := k + 1) (by omega) ⟨hI.shut, fun j q' hq' hef' hs' => ?_, fun j hj hs' => hI.above j hj (by omega), by omega, fun t x hx hno => ?_, fun j o' t ho' hL' hd' hc => ?_, fun j o' t hj ho' hw' hL' hs' hd' => ?_,
          fun x y hx hy hLx hLy hne hsx hsy => hI.apart x y hx hy hLx hLy hne (by omega) (by omega), g4, g1, g2, hI.n⟩
        · rcases Nat.lt_or_ge (C.s j) k with h' | h'
          · exact hI.below j q' hq' hef' h'
          · have := hR.inj hq' hq hef' hef (by omega)
            rw [this]; exact hL
        · obtain ⟨v, h1, h2⟩ := hI.old t x hx hno
          exact ⟨v, h1, g3 _ _ h2⟩
        · by_cases hji : j = i
          · subst hji
            rw [ho] at ho'; cases ho'
            rw [hd] at hd'; cases hd'
            exact g5
          · obtain ⟨v, h1, h2⟩ := hI.new j o' t ho' hL' hd' (fun h1 h2 => by
              have := hc h1 h2
              rcases Nat.lt_or_ge (C.s j) k with h' | h'
              · exact h'
              · exact absurd (hR.inj h1 hq rfl rfl (by omega)) hji)
            exact ⟨v, h1, g3 _ _ h2⟩
        · have hji : j ≠ i := fun h => by subst h; omega
          exact g6 j t hji hs' hw' hj hL' (hI.early j o' t hj ho' hw' hL' (by omega) hd')
      cases hw : C.w i with
      | false =>
        obtain ⟨hz, hH⟩ := hAt.2.2.2.1 hw
        have hH := hH rfl
        rw [hs] at hH
        obtain ⟨v, hv1, hv2⟩ := hI.new i o d ho hL hd (fun _ h => by rw [hw] at h; cases h)
        exact go (Φ' := Φ) (μ' := μ) (by rw [hH]; exact hI.r) (by rw [hH]; exact hI.t) (fun v x h => by rw [hH]; exact h) (by rw [hH]; exact hI.dr) ⟨v, hv1, by rw [hH]; exact hv2⟩
          (fun j t _ _ _ _ _ hE => ⟨by rw [hH]; exact hE.row, hE.new, hE.phi, by rw [hH]; exact hE.own⟩)
      | true =>
        obtain ⟨⟨cs, sh, vs, ty, hfit, hz, hH, ht, hb, hv⟩, hnew, hphi, hown⟩ := hI.early i o d hq ho hw hL (by omega) hd
        rw [hs] at hz hH
        have hlen : vs.length = cs.length := hv.1
        have hnx : (C.H (k + 1)).next = (C.H k).next + 1 := by rw [hH]; rfl
        refine go (Φ' := Φ) (μ' := upd μ (C.H k).next ⟨fb i, 0, vs.length⟩) (by rw [hH]; exact hI.r.adopt hb hv hphi hown) (by rw [hH]; exact hI.t.adopt hnew)
          (fun v x h => h.mono (fun _ _ h => h) (by omega) (fun j hj => upd_other _ _ _ _ (Nat.ne_of_lt hj))) (hI.dr.mono (fun _ _ h => h) (by omega) (fun j hj => upd_other _ _ _ _ (Nat.ne_of_lt hj)))
          ⟨_, ht, by rw [hz, hnx]; exact Shp.ok (by rw [hlen]; exact hfit)⟩ (fun j t hji hsj hwj hj hLj hE => ?_)
        obtain ⟨⟨cs', sh', vs', ty', e1, e2, e3, e4, e5, e6⟩, e7, e8, e9⟩ := hE
        refine ⟨⟨cs', sh', vs', ty', e1, e2, e3, e4, e5, e6.mono (fun _ _ h => h) (by omega) (fun j hj => upd_other _ _ _ _ (Nat.ne_of_lt hj))⟩, e7, e8, fun x ob hx => ?_⟩
        rw [hH, AH.get_push] at hx
        split at hx
        · rename_i e
          rw [← e, upd_same]
          exact hI.apart i j hq hj hL hLj (Ne.symm hji) (by omega) (by omega) hw hwj
        · rename_i e
          rw [upd_other _ _ _ _ (Ne.symm e)]
          exact e9 x ob hx
end
end Go.Ai
end
