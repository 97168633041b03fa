/- THE ABSTRACT INTERPRETER, PART 10: calls, regions in the order of the text, code; soundness. -/
import Derived.Test.YtaghpkljmnpjoaaGreatDoorE9
import Derived.Recover
set_option linter.unusedVariables false
set_option linter.unusedSimpArgs false
noncomputable section
namespace Go.Ai
variable {ξ : Env}

section
variable {P : Program}

/-- CALLS: with any memory that the abstract heap tells of, the call returns, and what it returns and leaves is as Q says. -/
def AC (ξ : Env) (P : Program) (f : FuncId) (args : List AV) (H : AH) (Q : AV → AH → Prop) : Prop :=
  ∀ Φ μ w (cargs : List Value), R ξ Φ μ H w → Vs ξ Φ μ H.next cargs args →
    Calls P f cargs.toArray w (fun e w' => ∃ v z H' Φ' μ', e = .returned v ∧ V ξ Φ' μ' H'.next v z ∧ R ξ Φ' μ' H' w' ∧ T Φ μ H w Φ' μ' H' w' ∧ Q z H')

theorem AC.mono {f : FuncId} {args : List AV} {H : AH} {Q Q' : AV → AH → Prop} (h : AC ξ P f args H Q) (hq : ∀ z H', Q z H' → Q' z H') : AC ξ P f args H Q' :=
  fun Φ μ w cargs hR hV => (h Φ μ w cargs hR hV).mono fun _ _ ⟨v, z, H', Φ', μ', h1, h2, h3, h4, h5⟩ => ⟨v, z, H', Φ', μ', h1, h2, h3, h4, hq _ _ h5⟩

/-- A deferred call, while the frame below returns. -/
def AD (ξ : Env) (P : Program) (f : FuncId) (args : List AV) (H : AH) (Q : AH → Prop) : Prop :=
  ∀ Φ μ w (cargs : List Value), R ξ Φ μ H w → Vs ξ Φ μ H.next cargs args →
    CallsD P f cargs.toArray .returning w (fun e u w' => u = .returning ∧ (∃ v, e = .returned v) ∧ ∃ H' Φ' μ', R ξ Φ' μ' H' w' ∧ T Φ μ H w Φ' μ' H' w' ∧ Q H')

inductive DR (ξ : Env) (Φ : Nat → Option Obj) (μ : Nat → Pl) (n : Nat) : List Deferred → List AD1 → Prop
  | nil : DR ξ Φ μ n [] []
  | call (g : Nat) (cap args : List Value) (caps as : List AV) (ds : List Deferred) (fs : List AD1) (h1 : Vs ξ Φ μ n cap caps) (h2 : Vs ξ Φ μ n args as) (h : DR ξ Φ μ n ds fs) :
      DR ξ Φ μ n ({ target := .fn (.func g) cap.toArray, args := args.toArray } :: ds) (.call g caps as :: fs)
  | coll (id : Nat) (ds : List Deferred) (fs : List AD1) (hid : id < n) (h : DR ξ Φ μ n ds fs) : DR ξ Φ μ n ({ target := .collected (μ id).block, args := #[] } :: ds) (.coll id :: fs)
theorem DR.mono {Φ Φ' : Nat → Option Obj} {μ μ' : Nat → Pl} {n n' : Nat} {ds : List Deferred} {fs : List AD1} (hΦ : ∀ b ob, Φ b = some ob → Φ' b = some ob) (hn : n ≤ n')
    (hμ : ∀ i, i < n → μ' i = μ i) (h : DR ξ Φ μ n ds fs) : DR ξ Φ' μ' n' ds fs := by
  induction h with
  | nil => exact .nil
  | call g cap args caps as ds fs h1 h2 _ ih => exact .call g cap args caps as ds fs (h1.mono hΦ hn hμ) (h2.mono hΦ hn hμ) ih
  | coll id ds fs hid _ ih =>
    rw [← hμ id hid]
    exact .coll id ds fs (Nat.lt_of_lt_of_le hid hn) ih

/-- Where a run of a body began. -/
structure Entry where
  Φ : Nat → Option Obj
  μ : Nat → Pl
  H : AH
  w : World

/-- A frame and a heap, abstract and real. 'N': how many slots. -/
structure Sim1 (ξ : Env) (e : Entry) (N : Nat) (F : AF) (H : AH) (a : Act) (w : World) (Φ : Nat → Option Obj) (μ : Nat → Pl) : Prop where
  tr : TR ξ Φ μ H.next a.tmps F.t
  dr : DR ξ Φ μ H.next a.defers F.d
  r : R ξ Φ μ H w
  t : T e.Φ e.μ e.H e.w Φ μ H w
  n : a.tmps.size = N
def Sim (ξ : Env) (e : Entry) (N : Nat) (F : AF) (H : AH) (a : Act) (w : World) : Prop := ∃ Φ μ, Sim1 ξ e N F H a w Φ μ

theorem Sim1.ev {e : Entry} {N : Nat} {F : AF} {H : AH} {a : Act} {w : World} {Φ : Nat → Option Obj} {μ : Nat → Pl} (h : Sim1 ξ e N F H a w Φ μ) : EV ξ Φ μ H.next a.eval F := EV.of_tr h.tr

/-- A new state, a value put into a slot. -/
theorem Sim1.step {e : Entry} {N : Nat} {F : AF} {H H' : AH} {a : Act} {w w' : World} {Φ Φ' : Nat → Option Obj} {μ μ' : Nat → Pl} {v : Value} {z : AV} {dst : Option Tmp} (h : Sim1 ξ e N F H a w Φ μ)
    (hR : R ξ Φ' μ' H' w') (hT : T Φ μ H w Φ' μ' H' w') (hv : V ξ Φ' μ' H'.next v z) (hd : ∀ d, dst = some d → d < N) : Sim1 ξ e N (F.put dst z) H' (a.put dst v) w' Φ' μ' where
  tr := (h.tr.mono hT.phi hT.next hT.mu).put hv (fun d hd' => by rw [h.n]; exact hd d hd')
  dr := by
    have := h.dr.mono hT.phi hT.next hT.mu
    cases dst <;> exact this
  r := hR
  t := h.t.trans hT
  n := by cases dst <;> simp [Act.put, h.n]


/-- The guard of an operation. -/
def wantA (all : List Oper) (F : AF) (o : Oper) : Option Bool :=
  match o.guard with
  | none => some true
  | some (j, want) => match all[j]? with
    | some g => match g.dst with
      | some t => match lk F.t t with
        | some (.bool b) => some (b == want)
        | some (.tuple []) => some false
        | _ => none
      | none => none
    | none => none
theorem wantA_sound {e : Entry} {N : Nat} {F : AF} {H : AH} {a : Act} {w : World} {Φ : Nat → Option Obj} {μ : Nat → Pl} {ops : Array Oper} {o : Oper} {b : Bool} (h : Sim1 ξ e N F H a w Φ μ)
    (hw : wantA ops.toList F o = some b) : Region.wanted o (yielded ops a.tmps) = b := by
  unfold wantA at hw
  unfold Region.wanted
  split at hw
  · rename_i hg
    rw [hg]; cases hw; rfl
  · rename_i j want hg
    rw [hg]
    simp only
    split at hw
    · rename_i g hj
      have hj' : ops[j]? = some g := by simpa using hj
      split at hw
      · rename_i t ht
        split at hw
        · rename_i b' hl
          cases hw
          obtain ⟨v, h1, h2⟩ := h.tr t _ hl
          cases h2
          simp [yielded, hj', ht, h1]
        · rename_i hl
          cases hw
          obtain ⟨v, h1, h2⟩ := h.tr t _ hl
          cases h2
          simp [yielded, hj', ht, h1]
        · cases hw
      · cases hw
    · cases hw

/-- Which function is called, with which arguments. -/
def okFn (P : Tab) (g : FuncId) : Bool :=
  match P.fnAt g with
  | some fn => fn.name != "runtime.NumGoroutine" && fn.body.isSome
  | none => false
theorem callFunc_ok {g : FuncId} (h : okFn P g = true) (args : Array Value) (w : World) : (callFunc g args).run P w = .ok (.enter g args) w := by
  unfold okFn at h
  split at h
  · rename_i fn hf
    have hf : P.funcs[g]? = some fn := hf
    simp only [Bool.and_eq_true, bne_iff_ne, ne_eq] at h
    obtain ⟨c, hb⟩ := Option.isSome_iff_exists.1 h.2
    simp [callFunc, hf, h.1, hb]
  · cases h

/-- The method of a type by its name: one that is declared at the type itself. -/
def methA (P : Tab) (t : TypeId) (name : String) : Option FuncId :=
  match P.info? t with
  | some i => match i.methods.find? (·.name == name) with
    | some m => if m.path.isEmpty then
        match m.func, P.underlying t with
        | some (f, true), some (.pointer _) => some f
        | some (_, false), some (.pointer _) => none
        | some (f, false), some _ => some f
        | _, _ => none
      else none
    | none => none
  | none => none
theorem methA_sound {t : TypeId} {name : String} {f : FuncId} (h : methA P t name = some f) (v : Value) (w : World) (n : Nat) : (method (n + 1) t v name).run P w = .ok (f, v) w := by
  unfold methA at h
  split at h
  · rename_i i hi
    have hi : P.info? t = some i := hi
    split at h
    · rename_i m hm
      split at h
      · rename_i hp
        have hpl : m.path.toList = [] := by
          have : m.path = #[] := by simpa [Array.isEmpty_iff] using hp
          simp [this]
        split at h
        · rename_i f' e hf hu
          cases h
          simp [method, typeInfo, hi, hm, hpl, follow, hf, receiverAt, run_underlying hu, Place.get]
        · cases h
        · rename_i f' d hnp hf hu
          cases h
          have hr : ∀ s, (receiverAt t (.val v) false s).run P w = .ok v w := fun s => by
            cases d <;> first
              | (simp [receiverAt, run_underlying hu, Place.get]; done)
              | exact absurd hu (hnp _)
              | exact (hnp _ rfl).elim
          simp [method, typeInfo, hi, hm, hpl, follow, hf, hr]
        · cases h
      · cases h
    · cases h
  · cases h

def calleeA (P : Tab) (F : AF) (c : Call) : Option (FuncId × List AV) :=
  match c.callee with
  | .value f => match F.eval f, F.evals c.args.toList with
    | some (.func (.func g) first cap), some as => if okFn P g then some (g, first ++ as ++ cap) else none
    | _, _ => none
  | .invoke recv name => match F.eval recv, F.evals c.args.toList with
    | some (.iface t v), some as => match methA P t name with
      | some g => if okFn P g then some (g, v :: as) else none
      | none => none
    | _, _ => none
  | .builtin _ => none
theorem calleeA_sound {Φ : Nat → Option Obj} {μ : Nat → Pl} {n : Nat} {F : AF} {ρ : Operand → Value} {c : Call} {g : FuncId} {as : List AV} (hE : EV ξ Φ μ n ρ F) (h : calleeA P F c = some (g, as)) (w : World) (ty : TypeId) :
    ∃ cargs, Vs ξ Φ μ n cargs as ∧ (do let d ← resolve ρ c ty; invoke d.target d.args : Sem Next).run P w = .ok (.enter g cargs.toArray) w := by
  obtain ⟨callee, args, argTypes⟩ := c
  unfold calleeA at h
  cases callee with
  | builtin b => cases h
  | value f =>
    simp only at h
    split at h
    · rename_i g' first cap as' hf has
      split at h
      · rename_i hok
        cases h
        have hV := hE _ _ hf
        have hA := evals_sound hE has
        cases hq : ρ f <;> rw [hq] at hV <;> cases hV
        rename_i fs cs h1 h2 h3 h4
        refine ⟨fs ++ args.toList.map ρ ++ cs, (Vs.append (⟨h1, h2⟩ : Vs ξ Φ μ n fs first) hA).append ⟨h3, h4⟩, ?_⟩
        have e1 : (fs.toArray ++ args.map ρ) ++ cs.toArray = (fs ++ args.toList.map ρ ++ cs).toArray := by apply Array.ext'; simp
        simp only [resolve, hq, Deferred.ofValue, Sem.run_bind, Sem.run_pure, Result.andThen_ok, invoke]
        rw [callFunc_ok hok, e1]
      · cases h
    · cases h
  | invoke recv name =>
    simp only at h
    split at h
    · rename_i t v as' hr has
      split at h
      · rename_i g' hm
        split at h
        · rename_i hok
          cases h
          have hV := hE _ _ hr
          have hA := evals_sound hE has
          cases hq : ρ recv <;> rw [hq] at hV <;> cases hV
          rename_i u hu
          refine ⟨u :: args.toList.map ρ, Vs.cons hu hA, ?_⟩
          have e1 : (#[u] ++ args.map ρ) = (u :: args.toList.map ρ).toArray := by apply Array.ext'; simp
          have e2 : (#[Value.iface t u] ++ args.map ρ)[0]? = some (Value.iface t u) := by
            rw [Array.getElem?_append]; simp
          have e3 : (#[Value.iface t u] ++ args.map ρ).extract 1 (#[Value.iface t u] ++ args.map ρ).size = args.map ρ := by
            apply Array.ext'
            simp [List.take_of_length_le]
          simp only [resolve, hq, Sem.run_bind, Sem.run_pure, Result.andThen_ok, invoke, e2, callMethod, e3, run_program]
          rw [show P.types.size + Made.depth = P.types.size + 99 + 1 from rfl, methA_sound hm u w (P.types.size + 99)]
          simp only [Result.andThen_ok, callFunc_ok hok, e1]
        · cases h
      · cases h
    · cases h

def deferA (F : AF) (c : Call) : Option AD1 :=
  match c.callee with
  | .value f => match F.eval f, F.evals c.args.toList with
    | some (.func (.func g) first cap), some as => some (.call g cap (first ++ as))
    | _, _ => none
  | _ => none

/-- The loop whose round is asked for, and the round's arguments. -/
def yieldA (F : AF) (c : Call) : Option (Nat × List AV) :=
  match c.callee with
  | .value f => match F.eval f, F.evals c.args.toList with
    | some (.yield id), some as => some (id, as)
    | _, _ => none
  | _ => none

/-- One operation at the machine. -/
def OW (P : Program) (o : Oper) (a : Act) (w : World) (K : Act → World → Prop) : Prop :=
  ∀ (b : Frame) (cs : List Frame) (ops : Array Oper) (i : Nat) (rest : List Nat) (k : List Item), ops[i]? = some o → Region.wanted o (yielded ops a.tmps) = true →
    ∃ a' w', K a' w' ∧ Steps P (lone (b.atR a (.inRegion ops (i :: rest) :: k)) cs w) (lone (b.atR a' (.inRegion ops rest :: k)) cs w')

theorem OW.mono {o : Oper} {a : Act} {w : World} {K K' : Act → World → Prop} (h : OW P o a w K) (hk : ∀ a' w', K a' w' → K' a' w') : OW P o a w K' :=
  fun b cs ops i rest k ho hw => let ⟨a', w', h1, h2⟩ := h b cs ops i rest k ho hw; ⟨a', w', hk _ _ h1, h2⟩

theorem fin_atR {b : Frame} {a : Act} {ops : Array Oper} {i : Nat} {rest : List Nat} {k : List Item} {o : Oper} (ho : ops[i]? = some o) (v : Value) :
    (b.atR a (.inRegion ops (i :: rest) :: k)).finish v = b.atR (a.put o.dst v) (.inRegion ops rest :: k) := by
  rw [Frame.finish_atR, ho]; rfl

theorem OW.value {o : Oper} {a : Act} {w w' : World} {K : Act → World → Prop} {v : Value} (hnd : ∀ c, o.op ≠ .defer c) (hr : (execOp a.eval o).run P w = .ok (.value v) w') (hk : K (a.put o.dst v) w') : OW P o a w K := by
  intro b cs ops i rest k ho hw
  refine ⟨_, _, hk, .one (step_lone_go ?_)⟩
  rw [stepGR_op ho hw, Oper.semAt_eq _ _ _ hnd, ← fin_atR ho]
  simp [stepG.apply, hr]
theorem OW.skip {o : Oper} {a : Act} {w w' : World} {K : Act → World → Prop} (hnd : ∀ c, o.op ≠ .defer c) (hr : (execOp a.eval o).run P w = .ok .skip w') (hk : K (a.put o.dst undef) w') : OW P o a w K := by
  intro b cs ops i rest k ho hw
  refine ⟨_, _, hk, .one (step_lone_go ?_)⟩
  rw [stepGR_op ho hw, Oper.semAt_eq _ _ _ hnd, ← fin_atR ho]
  simp [stepG.apply, hr]
theorem OW.next {o : Oper} {a : Act} {w w' : World} {K : Act → World → Prop} {v : Option Value} (hnd : ∀ c, o.op ≠ .defer c) (hr : (execOp a.eval o).run P w = .ok (nextOf v) w') (hk : K (a.put o.dst (v.getD undef)) w') : OW P o a w K := by
  cases v with
  | none => exact OW.skip hnd hr hk
  | some v => exact OW.value hnd hr hk
theorem OW.enter {o : Oper} {a : Act} {w w' : World} {K : Act → World → Prop} {f : FuncId} {args : Array Value} (hnd : ∀ c, o.op ≠ .defer c) (hr : (execOp a.eval o).run P w = .ok (.enter f args) w')
    (hc : Calls P f args w' (fun e w'' => ∃ v, e = .returned v ∧ K (a.put o.dst v) w'')) : OW P o a w K := by
  intro b cs ops i rest k ho hw
  obtain ⟨e, w'', fr, ⟨v, rfl, hk⟩, hsteps, _, hleave⟩ := hc (b.atR a (.inRegion ops (i :: rest) :: k) :: cs)
  have henter : step P (lone (b.atR a (.inRegion ops (i :: rest) :: k)) cs w) = .next (lone (Frame.enter P f args .normal) (b.atR a (.inRegion ops (i :: rest) :: k) :: cs) w') :=
    step_lone_go (by rw [stepGR_op ho hw, Oper.semAt_eq _ _ _ hnd]; simp [stepG.apply, hr, Frame.atR])
  refine ⟨_, _, hk, .head henter (Steps.trans hsteps (.one ?_))⟩
  rw [← fin_atR ho]; exact step_leave_returned hleave
/-- A round of a loop over a function. -/
def RoundW (P : Program) (l : Nat) (f : FuncId) (tmps : Array Value) (asg body : Code) (w : World) (Q : Value → World → Prop) : Prop :=
  ∀ (c : Frame) (cs : List Frame), ∃ v w', Q v w' ∧ Steps P (lone (Frame.round l f tmps asg body .normal) (c :: cs) w) (lone (c.finish v) cs w')
theorem OW.round {o : Oper} {a : Act} {w w' : World} {K : Act → World → Prop} {l : Nat} {f : FuncId} {tmps : Array Value} {asg body : Code} (hnd : ∀ c, o.op ≠ .defer c) (hr : (execOp a.eval o).run P w = .ok (.round l f tmps asg body) w')
    (hc : RoundW P l f tmps asg body w' (fun v w'' => K (a.put o.dst v) w'')) : OW P o a w K := by
  intro b cs ops i rest k ho hw
  obtain ⟨v, w'', hk, hsteps⟩ := hc (b.atR a (.inRegion ops (i :: rest) :: k)) cs
  have henter : step P (lone (b.atR a (.inRegion ops (i :: rest) :: k)) cs w) = .next (lone (Frame.round l f tmps asg body .normal) (b.atR a (.inRegion ops (i :: rest) :: k) :: cs) w') :=
    step_lone_go (by rw [stepGR_op ho hw, Oper.semAt_eq _ _ _ hnd]; simp [stepG.apply, hr, Frame.atR])
  refine ⟨_, _, hk, .head henter ?_⟩
  rw [← fin_atR ho]; exact hsteps

theorem pop_nd {H : AH} {F : AF} {op : Op} {z : AV} (h : pop P H F op = some z) : ∀ c, op ≠ .defer c := by
  rintro c rfl; simp [pop] at h
theorem eop_nd {H : AH} {F : AF} {op : Op} {r : AV × AH} (h : eop P H F op = some r) : ∀ c, op ≠ .defer c := by
  rintro c rfl; simp [eop] at h

/-- One operation, what may come of it. -/
def OS (ξ : Env) (P : Program) (o : Oper) (G : AF) (H : AH) (S : AV → AH → Prop) : Prop :=
  ∀ (Φ : Nat → Option Obj) (μ : Nat → Pl) (w : World) (a : Act) (K : Act → World → Prop), R ξ Φ μ H w → EV ξ Φ μ H.next a.eval G →
    (∀ v w' Φ' μ' z H', S z H' → V ξ Φ' μ' H'.next v z → R ξ Φ' μ' H' w' → T Φ μ H w Φ' μ' H' w' → K (a.put o.dst v) w') → OW P o a w K
theorem OS.mono {o : Oper} {G : AF} {H : AH} {S S' : AV → AH → Prop} (h : OS ξ P o G H S) (hs : ∀ z H', S z H' → S' z H') : OS ξ P o G H S' :=
  fun Φ μ w a K hR hE hK => h Φ μ w a K hR hE (fun v w' Φ' μ' z H' hz => hK v w' Φ' μ' z H' (hs _ _ hz))
theorem OS.pop {o : Oper} {G : AF} {H : AH} {z : AV} (h : Ai.pop P H G o.op = some z) : OS ξ P o G H (fun z' H' => z' = z ∧ H' = H) := by
  intro Φ μ w a K hR hE hK
  obtain ⟨v, h1, h2⟩ := pop_sound hR hE h
  exact OW.value (pop_nd h) h1 (hK _ _ _ _ _ _ ⟨rfl, rfl⟩ h2 hR (T.refl _ _ _ _))
theorem OS.eop {o : Oper} {G : AF} {H H' : AH} {z : AV} (h : Ai.eop P H G o.op = some (z, H')) : OS ξ P o G H (fun z' H'' => z' = z ∧ H'' = H') := by
  intro Φ μ w a K hR hE hK
  obtain ⟨v, w', h1, Φ', μ', h2, h3, h4⟩ := eop_sound hR hE h
  exact OW.next (eop_nd h) h1 (hK _ _ _ _ _ _ ⟨rfl, rfl⟩ h2 h3 h4)
theorem OS.call {o : Oper} {G : AF} {H : AH} {S : AV → AH → Prop} {c : Call} {f : FuncId} {as : List AV} (hc : o.op = .call c) (hf : calleeA P G c = some (f, as)) (h : AC ξ P f as H S) : OS ξ P o G H S := by
  intro Φ μ w a K hR hE hK
  obtain ⟨cargs, h1, h2⟩ := calleeA_sound (P := P) hE hf w o.type
  have hrun : (execOp a.eval o).run P w = .ok (.enter f cargs.toArray) w := by
    have : execOp a.eval o = (do let d ← resolve a.eval c o.type; invoke d.target d.args) := by
      unfold execOp; rw [hc]
    rw [this, h2]
  refine OW.enter (by rw [hc]; simp) hrun ((h Φ μ w cargs hR h1).mono ?_)
  rintro en w' ⟨v, z, H', Φ', μ', rfl, g1, g2, g3, g4⟩
  exact ⟨v, rfl, hK _ _ _ _ _ _ g4 g1 g2 g3⟩
end
end Go.Ai
end
