/- THE EVALUATOR: frames at the machine: code, regions in the order of the text, leaving, bodies. -/
import Derived.Test.YtaghpkljmnpjoaaGreatDoorEA
set_option linter.unusedVariables false
set_option linter.unusedSimpArgs false
noncomputable section
namespace Go.Ai
variable {ξ : Env}

section
variable {P : Program}

/-- Does a frame fit: a body's, or a round's? -/
def Fit (e : Entry) (rnd : Option Nat) (b : Frame) : Prop :=
  match rnd with
  | none => b.roundOf = none
  | some id => id < e.H.next ∧ b.roundOf = some (e.μ id).block ∧ b.kind = .normal

/-- Where a frame leaves. -/
def LeaveAt (todo : List Item) : Option Code → Prop
  | none => todo = []
  | some .ret => ∃ k, todo = .code .ret :: k
  | some (.exit id) => ∃ k, todo = .code (.exit id) :: k ∧ exitTo id k = none
  | _ => False

/-- From the frame F and the heap H on, with 'k' still to be done, the body comes to where it leaves, and Q holds there. -/
def AG (ξ : Env) (P : Program) (N : Nat) (rnd : Option Nat) (Q : Option Code → AF → AH → Prop) (k : List Item) (F : AF) (H : AH) : Prop :=
  ∀ (e : Entry) (b : Frame) (cs : List Frame) (a : Act) (w : World), Fit e rnd b → Sim ξ e N F H a w →
    ∃ a' w' todo j F' H', Steps P (lone (b.atR a k) cs w) (lone (b.atR a' todo) cs w') ∧ LeaveAt todo j ∧ Sim ξ e N F' H' a' w' ∧ Q j F' H'

variable {N : Nat} {rnd : Option Nat} {Q : Option Code → AF → AH → Prop} {k : List Item} {F : AF} {H : AH}

theorem AG.mono {Q' : Option Code → AF → AH → Prop} (h : AG ξ P N rnd Q k F H) (hq : ∀ j F' H', Q j F' H' → Q' j F' H') : AG ξ P N rnd Q' k F H :=
  fun e b cs a w hf hS => let ⟨a', w', todo, j, F', H', h1, h2, h3, h4⟩ := h e b cs a w hf hS; ⟨a', w', todo, j, F', H', h1, h2, h3, hq _ _ _ h4⟩
theorem AG.next {k' : List Item} (hs : ∀ (b : Frame) (cs : List Frame) (a : Act) (w : World), step P (lone (b.atR a k) cs w) = .next (lone (b.atR a k') cs w)) (h : AG ξ P N rnd Q k' F H) : AG ξ P N rnd Q k F H :=
  fun e b cs a w hf hS => let ⟨a', w', todo, j, F', H', h1, h2⟩ := h e b cs a w hf hS; ⟨a', w', todo, j, F', H', .head (hs b cs a w) h1, h2⟩

theorem AG.skip (h : AG ξ P N rnd Q k F H) : AG ξ P N rnd Q (.code .skip :: k) F H := .next (fun _ _ _ _ => stepR_skip) h
theorem AG.label {l : Nat} (h : AG ξ P N rnd Q k F H) : AG ξ P N rnd Q (.code (.label l) :: k) F H := .next (fun _ _ _ _ => stepR_label) h
theorem AG.seq {x y : Code} (h : AG ξ P N rnd Q (.code x :: .code y :: k) F H) : AG ξ P N rnd Q (.code (.seq x y) :: k) F H := .next (fun _ _ _ _ => stepR_seq) h
theorem AG.block {id : Nat} {c : Code} (h : AG ξ P N rnd Q (.code c :: .inBlock id :: k) F H) : AG ξ P N rnd Q (.code (.block id c) :: k) F H := .next (fun _ _ _ _ => stepR_block) h
theorem AG.inBlock {id : Nat} (h : AG ξ P N rnd Q k F H) : AG ξ P N rnd Q (.inBlock id :: k) F H := .next (fun _ _ _ _ => stepR_inBlock) h
theorem AG.loop {c : Code} (h : AG ξ P N rnd Q (.code c :: .inLoop c :: k) F H) : AG ξ P N rnd Q (.code (.loop c) :: k) F H := .next (fun _ _ _ _ => stepR_loop) h
theorem AG.inLoop {c : Code} (h : AG ξ P N rnd Q (.code c :: .inLoop c :: k) F H) : AG ξ P N rnd Q (.inLoop c :: k) F H := .next (fun _ _ _ _ => stepR_inLoop) h
theorem stepR_scope {b : Frame} {cs : List Frame} {a : Act} {w : World} {c : Code} : step P (lone (b.atR a (.code (.scope c) :: k)) cs w) = .next (lone (b.atR a (.code c :: .inScope c :: k)) cs w) :=
  step_lone_go (by simp [stepG, stepG.exec, Frame.atR])
theorem stepR_inScope {b : Frame} {cs : List Frame} {a : Act} {w : World} {c : Code} : step P (lone (b.atR a (.inScope c :: k)) cs w) = .next (lone (b.atR a k) cs w) :=
  step_lone_go (by simp [stepG, stepG.exec, Frame.atR])
theorem AG.scope {c : Code} (h : AG ξ P N rnd Q (.code c :: .inScope c :: k) F H) : AG ξ P N rnd Q (.code (.scope c) :: k) F H := .next (fun _ _ _ _ => stepR_scope) h
theorem AG.inScope {c : Code} (h : AG ξ P N rnd Q k F H) : AG ξ P N rnd Q (.inScope c :: k) F H := .next (fun _ _ _ _ => stepR_inScope) h
theorem AG.exit {id : Nat} {k' : List Item} (hk : exitTo id k = some k') (h : AG ξ P N rnd Q k' F H) : AG ξ P N rnd Q (.code (.exit id) :: k) F H := .next (fun _ _ _ _ => stepR_exit hk) h
theorem AG.ret (h : Q (some .ret) F H) : AG ξ P N rnd Q (.code .ret :: k) F H := fun _ _ _ _ _ _ hS => ⟨_, _, _, some .ret, _, _, Steps.refl P _, ⟨k, rfl⟩, hS, h⟩
theorem AG.done (h : Q none F H) : AG ξ P N rnd Q [] F H := fun _ _ _ _ _ _ hS => ⟨_, _, _, none, _, _, Steps.refl P _, rfl, hS, h⟩
theorem AG.out {id : Nat} (hk : exitTo id k = none) (h : Q (some (.exit id)) F H) : AG ξ P N rnd Q (.code (.exit id) :: k) F H := fun _ _ _ _ _ _ hS => ⟨_, _, _, some (.exit id), _, _, Steps.refl P _, ⟨k, rfl, hk⟩, hS, h⟩

theorem AG.cond {c : Operand} {x y : Code} {t : Bool} (hc : F.eval c = some (.bool t)) (h : AG ξ P N rnd Q (.code (bif t then x else y) :: k) F H) : AG ξ P N rnd Q (.code (.cond c x y) :: k) F H := by
  intro e b cs a w hm hS
  have hS0 := hS
  obtain ⟨Φ, μ, hS1⟩ := hS0
  have hV := hS1.ev _ _ hc
  have hq : a.eval c = .bool t := by cases hq : a.eval c <;> rw [hq] at hV <;> cases hV <;> rfl
  obtain ⟨a', w', todo, j, F', H', h1, h2⟩ := h e b cs a w hm hS
  refine ⟨a', w', todo, j, F', H', .head (stepR_cond hq) ?_, h2⟩
  cases t <;> exact h1

/-- The same state told in another way. -/
theorem AG.conseq {F' : AF} {H' : AH} (hs : ∀ e a w, Sim ξ e N F H a w → Sim ξ e N F' H' a w) (h : AG ξ P N rnd Q k F' H') : AG ξ P N rnd Q k F H :=
  fun e b cs a w hm hS => h e b cs a w hm (hs e a w hS)

/-- All slots that operations write are there. -/
def okDst (N : Nat) (ops : List Oper) : Bool := ops.all fun o => match o.dst with
  | some d => Nat.blt d N
  | none => true
theorem okDst_spec {ops : List Oper} (h : okDst N ops = true) : ∀ o ∈ ops, ∀ d, o.dst = some d → d < N := by
  intro o ho d hd
  have := List.all_eq_true.1 h o ho
  rw [hd] at this
  exact Nat.blt_eq ▸ this
theorem okDst_cons {o : Oper} {rest : List Oper} (h : okDst N (o :: rest) = true) : (∀ d, o.dst = some d → d < N) ∧ okDst N rest = true := by
  refine ⟨okDst_spec h o (List.mem_cons_self), ?_⟩
  simp only [okDst, List.all_cons, Bool.and_eq_true] at h ⊢
  exact h.2

/-- Operations of a region, one behind the other. -/
def RW (P : Program) (ops : Array Oper) (l : List Nat) (b : Frame) (a : Act) (w : World) (K : Act → World → Prop) : Prop :=
  ∀ (cs : List Frame) (k : List Item), ∃ a' w', K a' w' ∧ Steps P (lone (b.atR a (.inRegion ops l :: k)) cs w) (lone (b.atR a' (.inRegion ops [] :: k)) cs w')
theorem RW.nil {ops : Array Oper} {b : Frame} {a : Act} {w : World} {K : Act → World → Prop} (h : K a w) : RW P ops [] b a w K := fun _ _ => ⟨a, w, h, Steps.refl P _⟩
theorem RW.on {ops : Array Oper} {i : Nat} {rest : List Nat} {o : Oper} {b : Frame} {a : Act} {w : World} {K : Act → World → Prop} (ho : ops[i]? = some o) (hw : Region.wanted o (yielded ops a.tmps) = true)
    (h : OW P o a w (fun a' w' => RW P ops rest b a' w' K)) : RW P ops (i :: rest) b a w K := by
  intro cs k
  obtain ⟨a1, w1, h1, h2⟩ := h b cs ops i rest k ho hw
  obtain ⟨a2, w2, h3, h4⟩ := h1 cs k
  exact ⟨a2, w2, h3, Steps.trans h2 h4⟩
theorem RW.off {ops : Array Oper} {i : Nat} {rest : List Nat} {o : Oper} {b : Frame} {a : Act} {w : World} {K : Act → World → Prop} (ho : ops[i]? = some o) (hw : Region.wanted o (yielded ops a.tmps) = false)
    (h : RW P ops rest b (a.put o.dst undef) w K) : RW P ops (i :: rest) b a w K := by
  intro cs k
  obtain ⟨a2, w2, h3, h4⟩ := h cs k
  have hs := stepR_op_skip (P := P) (b := b) (a := a) (k := k) (cs := cs) (w := w) (ops := ops) (i := i) (rest := rest) (by simp [ho, hw])
  rw [ho] at hs
  exact ⟨a2, w2, h3, .head hs h4⟩
theorem RW.mono {ops : Array Oper} {l : List Nat} {b : Frame} {a : Act} {w : World} {K K' : Act → World → Prop} (h : RW P ops l b a w K) (hk : ∀ a' w', K a' w' → K' a' w') : RW P ops l b a w K' :=
  fun cs k => let ⟨a', w', h1, h2⟩ := h cs k; ⟨a', w', hk _ _ h1, h2⟩

/-- What is still to be done of a region, in the order of the text. -/
def AR (ξ : Env) (P : Program) (N : Nat) (rnd : Option Nat) (ops : List Oper) (K : AF → AH → Prop) (rest : List Oper) (F : AF) (H : AH) : Prop :=
  okDst N rest = true → ∀ (l : List Nat), l.map (fun i => ops[i]?) = rest.map some → ∀ (e : Entry) (b : Frame) (a : Act) (w : World), Fit e rnd b → Sim ξ e N F H a w →
    RW P ops.toArray l b a w (fun a' w' => ∃ F' H', Sim ξ e N F' H' a' w' ∧ K F' H')
theorem AR.nil {ops : List Oper} {K : AF → AH → Prop} (h : K F H) : AR ξ P N rnd ops K [] F H := by
  intro _ l hl e b a w _ hS
  have : l = [] := by simpa using hl
  subst this
  exact RW.nil ⟨F, H, hS, h⟩
theorem AR.mono {ops : List Oper} {K K' : AF → AH → Prop} {rest : List Oper} (h : AR ξ P N rnd ops K rest F H) (hk : ∀ F' H', K F' H' → K' F' H') : AR ξ P N rnd ops K' rest F H :=
  fun hd l hl e b a w hf hS => (h hd l hl e b a w hf hS).mono fun _ _ ⟨F', H', h1, h2⟩ => ⟨F', H', h1, hk _ _ h2⟩
theorem AR.conseq {ops : List Oper} {K : AF → AH → Prop} {rest : List Oper} {F' : AF} {H' : AH} (hs : ∀ e a w, Sim ξ e N F H a w → Sim ξ e N F' H' a w) (h : AR ξ P N rnd ops K rest F' H') : AR ξ P N rnd ops K rest F H :=
  fun hd l hl e b a w hf hS => h hd l hl e b a w hf (hs e a w hS)
theorem AR.on {ops : List Oper} {K : AF → AH → Prop} {o : Oper} {rest : List Oper} {S : AV → AH → Prop} (hw : wantA ops F o = some true) (h : OS ξ P o F H S) (hk : ∀ z H', S z H' → AR ξ P N rnd ops K rest (F.put o.dst z) H') :
    AR ξ P N rnd ops K (o :: rest) F H := by
  intro hd l hl e b a w hf hS
  obtain ⟨hd1, hd2⟩ := okDst_cons hd
  cases l with
  | nil => simp at hl
  | cons i l =>
    simp only [List.map_cons, List.cons.injEq] at hl
    obtain ⟨ho, hl⟩ := hl
    obtain ⟨Φ, μ, hS1⟩ := hS
    have ho' : (ops.toArray)[i]? = some o := by simpa using ho
    refine RW.on ho' (wantA_sound (ops := ops.toArray) hS1 (by simpa using hw)) (h Φ μ w a _ hS1.r hS1.ev (fun v w' Φ' μ' z H' hz hv hR hT => ?_))
    exact hk z H' hz hd2 l hl e b _ _ hf ⟨Φ', μ', hS1.step hR hT hv hd1⟩
theorem AR.off {ops : List Oper} {K : AF → AH → Prop} {o : Oper} {rest : List Oper} (hw : wantA ops F o = some false) (h : AR ξ P N rnd ops K rest (F.put o.dst (.tuple [])) H) : AR ξ P N rnd ops K (o :: rest) F H := by
  intro hd l hl e b a w hf hS
  obtain ⟨hd1, hd2⟩ := okDst_cons hd
  cases l with
  | nil => simp at hl
  | cons i l =>
    simp only [List.map_cons, List.cons.injEq] at hl
    obtain ⟨ho, hl⟩ := hl
    obtain ⟨Φ, μ, hS1⟩ := hS
    have ho' : (ops.toArray)[i]? = some o := by simpa using ho
    refine RW.off ho' (wantA_sound (ops := ops.toArray) hS1 (by simpa using hw)) ?_
    exact h hd2 l hl e b _ _ hf ⟨Φ, μ, hS1.step hS1.r (T.refl _ _ _ _) (.tuple _ [] [] rfl (fun j v a h => by simp at h)) hd1⟩
/-- A call is deferred. -/
theorem AR.defer {ops : List Oper} {K : AF → AH → Prop} {o : Oper} {rest : List Oper} {c : Call} {d : AD1} (hw : wantA ops F o = some true) (hc : o.op = .defer c) (hdf : deferA F c = some d)
    (h : AR ξ P N none ops K rest ({ F with d := d :: F.d }.put o.dst .undef) H) : AR ξ P N none ops K (o :: rest) F H := by
  intro hd l hl e b a w hf hS
  obtain ⟨hd1, hd2⟩ := okDst_cons hd
  cases l with
  | nil => simp at hl
  | cons i l =>
    simp only [List.map_cons, List.cons.injEq] at hl
    obtain ⟨ho, hl⟩ := hl
    obtain ⟨Φ, μ, hS1⟩ := id hS
    have ho' : (ops.toArray)[i]? = some o := by simpa using ho
    have hwt := wantA_sound (ops := ops.toArray) hS1 (by simpa using hw)
    unfold deferA at hdf
    split at hdf
    · rename_i f hcal
      split at hdf
      · rename_i g first cap as hfe has
        cases hdf
        have hV := hS1.ev _ _ hfe
        have hA := evals_sound hS1.ev has
        cases hqv : a.eval f <;> rw [hqv] at hV <;> cases hV
        rename_i fs cs0 h1 h2 h3 h4
        have hrun : (execOp a.eval o).run P w = .ok (.defer { target := .fn (.func g) cs0.toArray, args := (fs ++ c.args.toList.map a.eval).toArray }) w := by
          have e1 : fs.toArray ++ c.args.map a.eval = (fs ++ c.args.toList.map a.eval).toArray := by apply Array.ext'; simp
          unfold execOp; rw [hc]
          simp [resolve, hcal, hqv, Deferred.ofValue, e1]
        intro cs k
        have hb : b.roundOf = none := hf
        have hdr := DR.call g cs0 (fs ++ c.args.toList.map a.eval) cap (first ++ as) a.defers F.d ⟨h3, h4⟩ (Vs.append (⟨h1, h2⟩ : Vs ξ Φ μ H.next fs first) hA) hS1.dr
        have hS' : Sim1 ξ e N { F with d := .call g cap (first ++ as) :: F.d } H { a with defers := { target := .fn (.func g) cs0.toArray, args := (fs ++ c.args.toList.map a.eval).toArray } :: a.defers } w Φ μ :=
          ⟨hS1.tr, hdr, hS1.r, hS1.t, hS1.n⟩
        obtain ⟨a2, w2, h5, h6⟩ := h hd2 l hl e b _ _ hf ⟨Φ, μ, hS'.step (v := undef) hS1.r (T.refl _ _ _ _) (.undef _ _) hd1⟩ cs k
        refine ⟨a2, w2, h5, .head (step_lone_go ?_) h6⟩
        have hfin := fin_atR (b := b) (a := { a with defers := { target := .fn (.func g) cs0.toArray, args := (fs ++ c.args.toList.map a.eval).toArray } :: a.defers }) (rest := l) (k := k) ho' undef
        rw [stepGR_op ho' hwt, hb, Oper.semAt_none]
        simp only [stepG.apply, Sem.runT_eq, hrun, GStep.bare_after]
        exact congrArg (fun fr => GStep.go { frame := fr, callers := cs, status := .running, dying := none } w) hfin
      · cases hdf
    · cases hdf

theorem map_range_get (ops : List Oper) : (List.range ops.length).map (fun i => ops[i]?) = ops.map some := by
  apply List.ext_getElem?
  intro i
  rw [List.getElem?_map, List.getElem?_map]
  by_cases h : i < ops.length
  · simp [h]
  · simp [h]

/-- A region in the order of the text. -/
theorem AG.region {id : Nat} {ops : Array Oper} (hd : okDst N ops.toList = true) (h : AR ξ P N rnd ops.toList (AG ξ P N rnd Q k) ops.toList F H) : AG ξ P N rnd Q (.code (.region id ops false) :: k) F H := by
  intro e b cs a w hm hS
  obtain ⟨a1, w1, ⟨F1, H1, h1, h2⟩, h3⟩ := h hd (List.range ops.toList.length) (map_range_get ops.toList) e b a w hm hS cs k
  obtain ⟨a2, w2, todo, j, F2, H2, g1, g2⟩ := h2 e b cs a1 w1 hm h1
  have h3' : Steps P (lone (b.atR a (.inRegion ops (List.range ops.size) :: k)) cs w) (lone (b.atR a1 (.inRegion ops [] :: k)) cs w1) := by simpa using h3
  exact ⟨a2, w2, todo, j, F2, H2, .head stepR_region (Steps.trans h3' (.head stepR_region_end g1)), g2⟩

/-- The slots of a body that begins. -/
def slots : Nat → List AV → List (Nat × AV)
  | _, [] => []
  | i, x :: r => (i, x) :: slots (i + 1) r
theorem lk_slots : ∀ (as : List AV) (i t : Nat), lk (slots i as) t = if i ≤ t then as[t - i]? else none
  | [], i, t => by simp [slots, lk_nil]
  | x :: as, i, t => by
    rw [slots, lk_cons, lk_slots as (i + 1) t]
    by_cases h : i = t
    · subst h; simp
    · rw [if_neg h]
      by_cases h2 : i + 1 ≤ t
      · rw [if_pos h2, if_pos (by omega), show t - i = (t - (i + 1)) + 1 by omega, List.getElem?_cons_succ]
      · rw [if_neg h2, if_neg (by omega)]

/-- The results of a body. -/
def resA (P : Tab) (F : AF) (H : AH) : List ResultVar → Option (List AV)
  | [] => some []
  | .tmp t :: r => match lk F.t t, resA P F H r with
    | some x, some l => some (x :: l)
    | _, _ => none
  | .cell a t :: r => match lk F.t a with
    | some p => match deref H p with
      | some cells => match loadA P t cells, resA P F H r with
        | some x, some l => some (x :: l)
        | _, _ => none
      | none => none
    | none => none
def resultA (P : Tab) (F : AF) (H : AH) (rs : List ResultVar) : Option AV :=
  match resA P F H rs with
  | some [x] => some x
  | some l => some (.tuple l)
  | none => none

def resM (tmps : Array Value) : ResultVar → Sem Value
  | .tmp t => pure (tmps.getD t undef)
  | .cell a t => do loadVar t (← asAddr (tmps.getD a undef))
theorem resA_sound {Φ : Nat → Option Obj} {μ : Nat → Pl} {tmps : Array Value} {w : World} (hR : R ξ Φ μ H w) (hT : TR ξ Φ μ H.next tmps F.t) : ∀ {rs : List ResultVar} {l : List AV}, resA P F H rs = some l →
    ∃ vs : List Value, (rs.mapM (resM tmps)).run P w = .ok vs w ∧ Vs ξ Φ μ H.next vs l
  | [], l, h => by cases h; exact ⟨[], rfl, Vs.nil⟩
  | .tmp t :: r, l, h => by
    simp only [resA] at h
    split at h
    · rename_i x l' hx hr
      cases h
      obtain ⟨v, h1, h2⟩ := hT t x hx
      obtain ⟨vs, h3, h4⟩ := resA_sound hR hT hr
      exact ⟨v :: vs, by simp [resM, h1, h3], Vs.cons h2 h4⟩
    · cases h
  | .cell a t :: r, l, h => by
    simp only [resA] at h
    split at h
    · rename_i p hp
      split at h
      · rename_i cells hd
        split at h
        · rename_i x l' hx hr
          cases h
          obtain ⟨v, h1, h2⟩ := hT a p hp
          obtain ⟨b, o, us, hv, hvs, hc⟩ := deref_sound hR hd h2
          obtain ⟨u, h5, h6⟩ := loadA_sound (P := P) w b o hx hvs hc
          obtain ⟨vs, h3, h4⟩ := resA_sound hR hT hr
          exact ⟨u :: vs, by simp [resM, h1, hv, asAddr, h5, h3], Vs.cons h6 h4⟩
        · cases h
      · cases h
    · cases h

theorem results_eq (fn : Func) (tmps : Array Value) (w : World) (vs : List Value) (h : (fn.results.toList.mapM (resM tmps)).run P w = .ok vs w) :
    (results fn tmps).run P w = .ok (if h : vs.length = 1 then vs[0] else .tuple vs.toArray) w := by
  have e : results fn tmps = (do
      let vs ← fn.results.mapM (resM tmps)
      pure (if h : vs.size = 1 then vs[0] else .tuple vs)) := by
    unfold results
    congr 1
  rw [e, ← Array.toArray_toList (xs := fn.results), List.mapM_toArray]
  simp [h]

theorem resultA_sound {Φ : Nat → Option Obj} {μ : Nat → Pl} {tmps : Array Value} {w : World} {fn : Func} {z : AV} (hR : R ξ Φ μ H w) (hT : TR ξ Φ μ H.next tmps F.t) (h : resultA P F H fn.results.toList = some z) :
    ∃ v, (results fn tmps).run P w = .ok v w ∧ V ξ Φ μ H.next v z := by
  unfold resultA at h
  split at h
  · rename_i x hr
    cases h
    obtain ⟨vs, h1, h2⟩ := resA_sound (P := P) hR hT hr
    obtain ⟨v, rfl⟩ : ∃ v, vs = [v] := by
      have := h2.1
      match vs, this with
      | [v], _ => exact ⟨v, rfl⟩
    exact ⟨v, by rw [results_eq _ _ _ _ h1]; simp, h2.head⟩
  · rename_i l hne hr
    cases h
    obtain ⟨vs, h1, h2⟩ := resA_sound (P := P) hR hT hr
    refine ⟨.tuple vs.toArray, ?_, .tuple _ _ _ h2.1 h2.2⟩
    have hl : vs.length ≠ 1 := by
      intro h1
      rw [h2.1] at h1
      match l, h1 with
      | [x], _ => exact hne x rfl
    rw [results_eq _ _ _ _ h1]; simp [hl]
  · cases h

/-- The beginning of a body. -/
theorem Sim.enter {f : FuncId} {fn : Func} {c : Code} {args : List AV} {Φ : Nat → Option Obj} {μ : Nat → Pl} {w : World} {cargs : List Value} {kind : CallKind} (hf : P.funcs[f]? = some fn) (hb : fn.body = some c)
    (hn : Nat.ble args.length fn.ntmps = true) (hR : R ξ Φ μ H w) (hV : Vs ξ Φ μ H.next cargs args) :
    ∃ (b : Frame) (a : Act), Frame.enter P f cargs.toArray kind = b.atR a [.code c] ∧ b.fn = f ∧ b.kind = kind ∧ b.roundOf = none ∧ Sim1 ξ ⟨Φ, μ, H, w⟩ fn.ntmps ⟨slots 0 args, []⟩ H a w Φ μ := by
  have hn := Nat.le_of_ble_eq_true hn
  have hl := hV.1
  refine ⟨{ (default : Frame) with fn := f, kind := kind, roundOf := none }, { tmps := cargs.toArray ++ Array.replicate (fn.ntmps - cargs.toArray.size) undef, defers := [] }, ?_, rfl, rfl, rfl, ?_⟩
  · simp [Frame.enter, Frame.atR, hf, hb]
  · refine ⟨fun t x hx => ?_, .nil, hR, T.refl _ _ _ _, by simp; omega⟩
    rw [lk_slots] at hx
    simp only [Nat.zero_le, if_true, Nat.sub_zero] at hx
    obtain ⟨v, h1, h2⟩ := hV.get hx
    refine ⟨v, ?_, h2⟩
    have hlt := (List.getElem?_eq_some_iff.1 h1).1
    rw [Array.getElem?_append_left (by simpa using hlt)]
    simpa using h1

theorem R.gone {Φ : Nat → Option Obj} {μ : Nat → Pl} {H : AH} {w w' : World} (h : R ξ Φ μ H w) (i : Nat) (old : AObj) (hi : H.get i = some old)
    (hw : ∀ b, b ≠ (μ i).block → w'.heap[b]? = w.heap[b]?) : R ξ Φ μ (H.kill i) w' where
  obj j o' hj := by
    rw [AH.get_kill] at hj
    split at hj
    · cases hj
    · rename_i e
      exact (h.obj j o' hj).mono (fun _ _ h => h) (Nat.le_refl _) (fun _ _ => rfl) (hw _ (h.inj j i _ _ hj hi (Ne.symm e)))
  lt j o' hj := by
    rw [AH.get_kill] at hj
    split at hj
    · cases hj
    · exact h.lt j o' hj
  inj j k a b hj hk hne := by
    rw [AH.get_kill] at hj hk
    split at hj
    · cases hj
    · split at hk
      · cases hk
      · exact h.inj j k a b hj hk hne
  frz b ob hb := by
    rw [hw b (fun e => h.dis i old b ob hi hb e.symm)]; exact h.frz b ob hb
  dis j a b ob hj hb := by
    rw [AH.get_kill] at hj
    split at hj
    · cases hj
    · exact h.dis j a b ob hj hb
  glob := h.glob
theorem T.gone {Φ : Nat → Option Obj} {μ : Nat → Pl} {H : AH} {w w' : World} (i : Nat) (old : AObj) (hi : H.get i = some old)
    (hw : ∀ b, b ≠ (μ i).block → w'.heap[b]? = w.heap[b]?) (hsz : w.heap.size ≤ w'.heap.size) (ho : w'.os = w.os) (ht : w'.tape = w.tape) (hu : w'.output = w.output) : T Φ μ H w Φ μ (H.kill i) w' where
  phi _ _ h := h
  mu _ _ := rfl
  next := Nat.le_refl _
  size := hsz
  os := ho
  tape := ht
  output := hu
  same b hb hno := hw b (fun e => hno i old hi e.symm)
  own j o' hj := by
    rw [AH.get_kill] at hj
    split at hj
    · cases hj
    · exact .inl ⟨j, o', hj, rfl⟩
  kno _ _ h := .inl h

theorem step_collected {fr : Frame} {cs : List Frame} {w : World} {blk : Nat} {ds : List Deferred} (hm : fr.mode = .returning) (hd : fr.defers = { target := .collected blk, args := #[] } :: ds) (hw : w.heap[blk]? = some (.deferred (some []))) :
    step P (lone fr cs w) = .next (lone { fr with defers := ds } cs (setObjW w blk (.deferred none))) := by
  have hr : (Instr.takeDeferred blk).run P w = .ok [] (setObjW w blk (.deferred none)) := by
    simp [Instr.takeDeferred, getObj, setObj, Sem.run, hw, setObjW]
  refine step_lone_go ?_
  simp [stepG, unwind, hm, hd, Sem.runT_eq, hr]

/-- What a frame does when it returns: the deferred calls, the results. -/
def ALeave (ξ : Env) (P : Program) (rs : List ResultVar) (Q : AV → AH → Prop) (F : AF) : List AD1 → AH → Prop
  | [], H => ∃ z, resultA P F H rs = some z ∧ Q z H
  | .call g caps as :: ds, H => okFn P g = true ∧ AD ξ P g (as ++ caps) H (fun H' => ALeave ξ P rs Q F ds H')
  | .coll id :: ds, H => H.get id = some .dfr ∧ ALeave ξ P rs Q F ds (H.kill id)

theorem AD.mono {g : FuncId} {as : List AV} {H : AH} {Q Q' : AH → Prop} (h : AD ξ P g as H Q) (hq : ∀ H', Q H' → Q' H') : AD ξ P g as H Q' := by
  intro Φ μ w cargs hR hV c cs hm
  obtain ⟨e, u', w', fr, ⟨h1, h2, H', Φ', μ', h3, h4, h5⟩, h6⟩ := h Φ μ w cargs hR hV c cs hm
  exact ⟨e, u', w', fr, ⟨h1, h2, H', Φ', μ', h3, h4, hq _ h5⟩, h6⟩
theorem ALeave.mono {rs : List ResultVar} {Q Q' : AV → AH → Prop} {F : AF} (hq : ∀ z H', Q z H' → Q' z H') : ∀ {ds : List AD1} {H : AH}, ALeave ξ P rs Q F ds H → ALeave ξ P rs Q' F ds H
  | [], H, ⟨z, h1, h2⟩ => ⟨z, h1, hq _ _ h2⟩
  | .call g caps as :: ds, H, ⟨h1, h2⟩ => ⟨h1, h2.mono (fun H' h => ALeave.mono hq h)⟩
  | .coll id :: ds, H, ⟨h1, h2⟩ => ⟨h1, ALeave.mono hq h2⟩

theorem ALeave.sound {fn : Func} {Q : AV → AH → Prop} {F : AF} {tmps : Array Value} {e : Entry} : ∀ {fs : List AD1} {ds : List Deferred} {H : AH} {w : World} {Φ : Nat → Option Obj} {μ : Nat → Pl} (fr : Frame) (cs : List Frame),
    ALeave ξ P fn.results.toList Q F fs H → DR ξ Φ μ H.next ds fs → TR ξ Φ μ H.next tmps F.t → R ξ Φ μ H w → T e.Φ e.μ e.H e.w Φ μ H w →
    fr.mode = .returning → fr.defers = ds → fr.tmps = tmps → P.funcs[fr.fn]? = some fn → fr.kind = .normal →
    ∃ v w' fr' z H' Φ' μ', Steps P (lone fr cs w) (lone fr' cs w') ∧ fr'.fn = fr.fn ∧ fr'.leaving P w' (.returned v) ∧ V ξ Φ' μ' H'.next v z ∧ R ξ Φ' μ' H' w' ∧ T e.Φ e.μ e.H e.w Φ' μ' H' w' ∧ Q z H'
  | [], _, H, w, Φ, μ, fr, cs, h, .nil, hT, hR, ht, hm, hd, htm, hf, hk => by
    obtain ⟨z, hz, hQ⟩ := h
    obtain ⟨v, h1, h2⟩ := resultA_sound hR hT hz
    exact ⟨v, w, fr, z, H, Φ, μ, Steps.refl P _, rfl, ⟨hm, hd, hk, fn, hf, htm ▸ h1⟩, h2, hR, ht, hQ⟩
  | .call g caps as :: fs, _, H, w, Φ, μ, fr, cs, h, .call _ cap args _ _ ds _ h1 h2 hdr, hT, hR, ht, hm, hd, htm, hf, hk => by
    obtain ⟨hok, had⟩ := h
    have hi : (invoke (.fn (.func g) cap.toArray) args.toArray).run P w = .ok (.enter g (args ++ cap).toArray) w := by
      have e1 : args.toArray ++ cap.toArray = (args ++ cap).toArray := by apply Array.ext'; simp
      simp only [invoke]
      rw [callFunc_ok hok, e1]
    have hs1 := step_defer (P := P) (cs := cs) (w := w) (d := { target := .fn (.func g) cap.toArray, args := args.toArray }) (by rw [hm]; simp) hd rfl hi
    obtain ⟨en, u', w', frX, ⟨rfl, ⟨v, rfl⟩, H', Φ', μ', g1, g2, g3⟩, hsteps, hkX, hgo⟩ := had Φ μ w (args ++ cap) hR (h2.append h1) { fr with defers := ds } cs hm
    have hs2 := step_going_returned (c := { { fr with defers := ds } with mode := .returning }) (cs := cs) hkX hgo
    obtain ⟨v', w'', fr', z, H'', Φ'', μ'', k1, k2, k3⟩ := ALeave.sound (e := e) (tmps := tmps) { { { fr with defers := ds } with mode := .returning } with mode := settle .returning } cs g3 (hdr.mono g2.phi g2.next g2.mu) (hT.mono g2.phi g2.next g2.mu) g1 (ht.trans g2)
      rfl rfl htm hf hk
    exact ⟨v', w'', fr', z, H'', Φ'', μ'', .head hs1 (Steps.trans hsteps (.head hs2 k1)), k2, k3⟩
  | .coll id :: fs, _, H, w, Φ, μ, fr, cs, h, .coll _ ds _ hid hdr, hT, hR, ht, hm, hd, htm, hf, hk => by
    obtain ⟨hg, hl⟩ := h
    have hob : w.heap[(μ id).block]? = some (.deferred (some [])) := hR.obj _ _ hg
    have hs1 := step_collected (P := P) (cs := cs) hm hd hob
    have hw : ∀ b, b ≠ (μ id).block → (setObjW w (μ id).block (.deferred none)).heap[b]? = w.heap[b]? := fun b hb => setObj_other hb
    have hR' := hR.gone id _ hg hw
    have hT' : T Φ μ H w Φ μ (H.kill id) (setObjW w (μ id).block (.deferred none)) := T.gone id _ hg hw (by simp [setObjW]) rfl rfl rfl
    obtain ⟨v', w'', fr', z, H'', Φ'', μ'', k1, k2, k3⟩ := ALeave.sound (e := e) (tmps := tmps) { fr with defers := ds } cs hl hdr hT hR' (ht.trans hT') hm rfl htm hf hk
    exact ⟨v', w'', fr', z, H'', Φ'', μ'', .head hs1 k1, k2, k3⟩

/-- How a body leaves. -/
def LeaveF (ξ : Env) (P : Program) (rs : List ResultVar) (S : AV → AH → Prop) (j : Option Code) (F : AF) (H : AH) : Prop := (j = none ∨ j = some .ret) ∧ ALeave ξ P rs S F F.d H

/-- The call of a function with a body. -/
theorem AC.body {f : FuncId} {fn : Func} {c : Code} {args : List AV} {S : AV → AH → Prop} (hf : P.funcs[f]? = some fn) (hb : fn.body = some c) (hn : Nat.ble args.length fn.ntmps = true)
    (h : AG ξ P fn.ntmps none (LeaveF ξ P fn.results.toList S) [.code c] ⟨slots 0 args, []⟩ H) : AC ξ P f args H S := by
  intro Φ μ w cargs hR hV cs
  obtain ⟨b, a, he, hbf, hbk, hbr, hS⟩ := Sim.enter (kind := .normal) hf hb hn hR hV
  obtain ⟨a', w', todo, j, F', H', h1, h2, ⟨Φ', μ', hS'⟩, hj, hL⟩ := h ⟨Φ, μ, H, w⟩ b cs a w hbr ⟨Φ, μ, hS⟩
  have hlast : step P (lone (b.atR a' todo) cs w') = .next (lone { b.atR a' todo with mode := .returning } cs w') := by
    rcases hj with rfl | rfl
    · have : todo = [] := h2
      subst this
      exact stepR_end hbr
    · obtain ⟨k, rfl⟩ := h2
      exact stepR_ret hbr
  have hff : P.funcs[({ b.atR a' todo with mode := .returning } : Frame).fn]? = some fn := by
    show P.funcs[b.fn]? = some fn
    rw [hbf]; exact hf
  obtain ⟨v, w'', fr', z, H'', Φ'', μ'', k1, k2, k3, k4, k5, k6, k7⟩ := ALeave.sound (tmps := a'.tmps) { b.atR a' todo with mode := .returning } cs hL hS'.dr hS'.tr hS'.r hS'.t rfl rfl rfl hff hbk
  refine ⟨.returned v, w'', fr', ⟨v, z, H'', Φ'', μ'', rfl, k4, k5, k6, k7⟩, ?_, k2.trans hbf, k3⟩
  rw [he]
  exact Steps.trans h1 (.head hlast k1)
end
end Go.Ai
end
