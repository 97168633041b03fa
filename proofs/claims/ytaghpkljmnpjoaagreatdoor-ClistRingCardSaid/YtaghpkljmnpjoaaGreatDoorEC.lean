/- THE EVALUATOR: deferred closures that recover; loops over functions. -/
import Derived.Test.YtaghpkljmnpjoaaGreatDoorEB
set_option linter.unusedVariables false
set_option linter.unusedSimpArgs false
noncomputable section
namespace Go.Ai
variable {ξ : Env}
section
variable {P : Program}
theorem pop_binOp {H : AH} {F : AF} {x y : Operand} {z : AV} {op : BinOp} {t yt : TypeId} {u v : AV} (h1 : F.eval x = some u) (h2 : F.eval y = some v) (h3 : binA P op t (isConst x) (isConst y) u v = some z) : pop P H F (.binOp op t x y yt) = some z := by
  simp only [pop, h1, h2, h3]
/-- A deferred closure that looks for a panic and finds none. -/
theorem AD.recover {f : FuncId} {fn : Func} {args : List AV} {H : AH} {Q : AH → Prop} {r t T T' : Nat} {id ty1 ty2 : Nat} {p1 p2 : String} {a1 a2 : Array Edge} {ts : Array TypeId} {X : Code} {N : Nat}
    (hf : P.funcs[f]? = some fn)
    (hb : fn.body = some (.seq (.region id #[⟨some r, .call ⟨.builtin .recover, #[], ts⟩, ty1, p1, a1, none⟩, ⟨some t, .binOp .neq T (.tmp r) (.const .nilIface) T', ty2, p2, a2, none⟩] false) (.cond (.tmp t) X .skip)))
    (hN : fn.ntmps = N) (hr : fn.results = #[]) (hlt : (Nat.blt r N && Nat.blt t N) = true) (hi : binA P .neq T false true .niliface .niliface = some (.bool false)) (hQ : Q H) : AD ξ P f args H Q := by
  subst hN
  simp only [Bool.and_eq_true, Nat.blt_eq] at hlt
  intro Φ μ w cargs hR hV
  refine callsD_of_wpS hf hb ?_
  intro c₀ cs hc₀
  have hrec : recoverD (c₀ :: cs) = none := by simp [recoverD, hc₀]
  generalize ha : ({ tmps := cargs.toArray ++ Array.replicate (fn.ntmps - cargs.toArray.size) undef, defers := [] } : Act) = a
  have hsz : fn.ntmps ≤ a.tmps.size := by subst ha; simp; omega
  have hdf : a.defers = [] := by subst ha; rfl
  refine wpS_seq (wpS_region ?_)
  have e1 : List.range (#[(⟨some r, .call ⟨.builtin .recover, #[], ts⟩, ty1, p1, a1, none⟩ : Oper), ⟨some t, .binOp .neq T (.tmp r) (.const .nilIface) T', ty2, p2, a2, none⟩]).size = [0, 1] := rfl
  rw [e1]
  have x1 : ∀ ρ : Operand → Value, (execOp ρ ⟨some r, .call ⟨.builtin .recover, #[], ts⟩, ty1, p1, a1, none⟩).run P w = .ok .recover w := fun ρ => by
    simp [execOp, resolve, invoke, builtin]
  have hE : EV ξ Φ μ H.next (a.put (some r) .nilIface).eval ⟨[(r, .niliface)], []⟩ := by
    refine EV.of_tr ?_
    intro q x hx
    rw [lk_cons] at hx
    split at hx
    · rename_i e
      cases hx
      subst e
      exact ⟨.nilIface, Array.getElem?_setIfInBounds_self_of_lt (by omega), .niliface _⟩
    · cases hx
  obtain ⟨v2, x2, hv2⟩ := pop_sound (P := P) (o := ⟨some t, .binOp .neq T (.tmp r) (.const .nilIface) T', ty2, p2, a2, none⟩) hR hE (z := .bool false)
    (pop_binOp (u := .niliface) (v := .niliface) (by simp [AF.eval, lk_cons]) rfl hi)
  have hv : v2 = .bool false := by cases hv2; rfl
  subst hv
  simp only [wpOpsS, Region.wanted, if_true, List.getElem?_toArray, List.getElem?_cons_zero, List.getElem?_cons_succ, x1, hrec, x2, Oper.upon]
  refine wpS_cond (t := false) ?_ ?_
  · have h1 : t < (a.tmps.setIfInBounds r .nilIface).size := by rw [Array.size_setIfInBounds]; omega
    simp only [Act.eval, Act.put, Array.getD_eq_getD_getElem?]
    rw [Array.getElem?_setIfInBounds_self_of_lt h1]
    rfl
  · refine wpS_of_wp (wp_skip ?_)
    refine ⟨by simpa [Act.put] using hdf, .returning, ?_, .tuple #[], ?_, rfl, ⟨_, rfl⟩, H, Φ, μ, hR, Go.Ai.T.refl _ _ _ _, hQ⟩
    · congr 1
      cases c₀
      simp only at hc₀
      subst hc₀; rfl
    · simp [results, hr]

/-- Is it a closure that looks for a panic? -/
def recOk (P : Tab) (g : FuncId) : Bool :=
  match P.fnAt g with
  | some fn => match fn.body with
    | some (.seq (.region _ ops false) (.cond (.tmp t) _ .skip)) => match ops.toList with
      | [⟨some r, .call ⟨.builtin .recover, as, _⟩, _, _, _, none⟩, ⟨some t', .binOp .neq T (.tmp r') (.const .nilIface) _, _, _, _, none⟩] =>
        Nat.beq t t' && (Nat.beq r r' && (Nat.blt r fn.ntmps && (Nat.blt t fn.ntmps && (as.toList.isEmpty && (fn.results.toList.isEmpty && (okFn P g && (match binA P .neq T false true .niliface .niliface with | some (.bool false) => true | _ => false)))))))
      | _ => false
    | _ => false
  | none => false
theorem recOk_sound {g : FuncId} (h : recOk P g = true) : okFn P g = true ∧ ∀ {args : List AV} {H : AH} {Q : AH → Prop}, Q H → AD ξ P g args H Q := by
  unfold recOk at h
  split at h
  · rename_i fn hf
    have hf : P.funcs[g]? = some fn := hf
    split at h
    · rename_i id ops t X hb
      split at h
      · rename_i r as ts ty1 p1 a1 t' T r' T' ty2 p2 a2 hops
        simp only [Bool.and_eq_true] at h
        obtain ⟨h1, h2, h3, h4, h5, h6, h7, h8⟩ := h
        have e1 := Nat.eq_of_beq_eq_true h1
        have e2 := Nat.eq_of_beq_eq_true h2
        subst e1; subst e2
        refine ⟨h7, fun {args H Q} hQ => ?_⟩
        have hops' : ops = #[⟨some r, .call ⟨.builtin .recover, #[], ts⟩, ty1, p1, a1, none⟩, ⟨some t, .binOp .neq T (.tmp r) (.const .nilIface) T', ty2, p2, a2, none⟩] := by
          apply Array.ext'
          rw [hops]
          have : as = #[] := by
            apply Array.ext'
            simpa using h5
          rw [this]
        subst hops'
        refine AD.recover hf hb rfl ?_ (by rw [h3, h4]; rfl) ?_ hQ
        · apply Array.ext'
          simpa using h6
        · split at h8
          · assumption
          · cases h8
      · cases h
    · cases h
  · cases h

/- ROUNDS. -/
theorem run_getLoop {w : World} {l : Nat} {L : Loop} (h : w.heap[l]? = some (.loop L)) : (Instr.getLoop l).run P w = .ok L w := by
  simp [Instr.getLoop, getObj, Sem.run, h]
theorem run_setLoop {w : World} {l : Nat} {L : Loop} (o : Obj) (h : w.heap[l]? = some (.loop L)) : (setObj l o).run P w = .ok () (setObjW w l o) := by
  simp [setObj, Sem.run, h, setObjW]

/-- The frame of a round: the arguments in their slots. -/
def putsA : List Nat → List AV → List (Nat × AV) → Option (List (Nat × AV))
  | [], [], t => some t
  | p :: ps, a :: as, t => putsA ps as ((p, a) :: t)
  | _, _, _ => none
theorem putsA_sound {Φ : Nat → Option Obj} {μ : Nat → Pl} {n N : Nat} : ∀ {ps : List Nat} {as : List AV} {vs : List Value} {t t' : List (Nat × AV)} {tmps : Array Value}, putsA ps as t = some t' → Vs ξ Φ μ n vs as → TR ξ Φ μ n tmps t → tmps.size = N →
    (∀ p ∈ ps, p < N) → vs.length = ps.length ∧ TR ξ Φ μ n ((ps.zip vs).foldl (fun tmps (t, a) => tmps.setIfInBounds t a) tmps) t' ∧ ((ps.zip vs).foldl (fun tmps (t, a) => tmps.setIfInBounds t a) tmps).size = N
  | [], [], vs, t, t', tmps, h, hv, hT, hN, hp => by
    cases h
    have : vs = [] := by have := hv.1; simpa using this
    subst this
    exact ⟨rfl, hT, hN⟩
  | p :: ps, a :: as, vs, t, t', tmps, h, hv, hT, hN, hp => by
    simp only [putsA] at h
    cases vs with
    | nil => have := hv.1; simp at this
    | cons v vs =>
      have hT' : TR ξ Φ μ n (tmps.setIfInBounds p v) ((p, a) :: t) := by
        intro s x hx
        rw [lk_cons] at hx
        split at hx
        · rename_i e
          cases hx
          subst e
          exact ⟨v, Array.getElem?_setIfInBounds_self_of_lt (by rw [hN]; exact hp p List.mem_cons_self), hv.head⟩
        · rename_i e
          obtain ⟨u, h1, h2⟩ := hT s x hx
          exact ⟨u, by rw [Array.getElem?_setIfInBounds_ne e]; exact h1, h2⟩
      obtain ⟨h1, h2, h3⟩ := putsA_sound (vs := vs) h hv.tail hT' (by simp [hN]) (fun q hq => hp q (List.mem_cons_of_mem _ hq))
      exact ⟨by simp [h1], by simpa using h2, by simpa using h3⟩
  | [], _ :: _, _, _, _, _, h, _, _, _, _ => by cases h
  | _ :: _, [], _, _, _, _, h, _, _, _, _ => by cases h

/-- How a round leaves. -/
def LeaveR (id : Nat) (S : AV → AH → Prop) (j : Option Code) (_F : AF) (H : AH) : Prop :=
  ∃ st pend fn nt t ps asg body, H.get id = some (.loop st pend fn nt t ps asg body) ∧ S (.bool j.isNone) (H.set id (.loop (bif j.isNone then .ready else .done) j fn nt t ps asg body))

theorem loopSet_ok {Φ : Nat → Option Obj} {μ : Nat → Pl} {H : AH} {w : World} {id : Nat} {L : Loop} {st st' : LoopState} {pend pend' : Option Code} {fn nt : Nat} {t : List (Nat × AV)} {ps : List Nat} {asg body : Code} (hR : R ξ Φ μ H w)
    (hg : H.get id = some (.loop st pend fn nt t ps asg body)) (hL : w.heap[(μ id).block]? = some (.loop L)) (h1 : L.tmps.size = nt) (h2 : TR ξ Φ μ H.next L.tmps t) (h3 : L.params.toList = ps) (h4 : L.assign = asg) (h5 : L.body = body) :
    R ξ Φ μ (H.set id (.loop st' pend' fn nt t ps asg body)) (setObjW w (μ id).block (.loop { L with state := st', pending := pend' })) ∧
    T Φ μ H w Φ μ (H.set id (.loop st' pend' fn nt t ps asg body)) (setObjW w (μ id).block (.loop { L with state := st', pending := pend' })) :=
  ⟨hR.set id _ _ hg (fun b hb => setObj_other hb) ⟨{ L with state := st', pending := pend' }, setObj_same hL, rfl, rfl, h1, h2, h3, h4, h5⟩,
    T.set id _ _ hg (fun b hb => setObj_other hb) (by simp [setObjW]) rfl rfl rfl⟩

theorem AG.beginRound {N id : Nat} {Q : Option Code → AF → AH → Prop} {k : List Item} {F : AF} {H : AH} {pend : Option Code} {fn nt : Nat} {t : List (Nat × AV)} {ps : List Nat} {asg body : Code}
    (hg : H.get id = some (.loop .ready pend fn nt t ps asg body)) (h : AG ξ P N (some id) Q k F (H.set id (.loop .busy pend fn nt t ps asg body))) : AG ξ P N (some id) Q (.beginRound :: k) F H := by
  intro e b cs a w hf hS
  have hf0 := hf
  obtain ⟨hid, hro, hkd⟩ := hf0
  obtain ⟨Φ, μ, hS1⟩ := hS
  obtain ⟨L, h1, h2, h3, h4, h5, h6, h7, h8⟩ := hS1.r.obj _ _ hg
  have hμ : μ id = e.μ id := hS1.t.mu id hid
  have hrun : (Instr.beginRound (e.μ id).block).run P w = .ok () (setObjW w (μ id).block (.loop { L with state := .busy })) := by
    rw [← hμ]
    simp [Instr.beginRound, run_getLoop h1, run_setLoop _ h1, h2]
  have hset := loopSet_ok (st' := .busy) (pend' := pend) hS1.r hg h1 h4 h5 h6 h7 h8
  have e1 : ({ L with state := LoopState.busy, pending := pend } : Loop) = { L with state := .busy } := by rw [← h3]
  rw [e1] at hset
  obtain ⟨a', w', todo, j, F', H', g1, g2⟩ := h e b cs a _ hf ⟨Φ, μ, ⟨hS1.tr, hS1.dr, hset.1, hS1.t.trans hset.2, hS1.n⟩⟩
  exact ⟨a', w', todo, j, F', H', .head (stepR_beginRound hro hrun) g1, g2⟩

/-- A round. -/
theorem OS.yield {o : Oper} {G : AF} {H : AH} {S : AV → AH → Prop} {c : Call} {id : Nat} {as : List AV} {st : LoopState} {pend : Option Code} {fn nt : Nat} {t t' : List (Nat × AV)} {ps : List Nat} {asg body : Code}
    (hc : o.op = .call c) (hf : yieldA G c = some (id, as)) (hg : H.get id = some (.loop st pend fn nt t ps asg body)) (hp : putsA ps as t = some t') (hlt : ps.all (fun p => Nat.blt p nt) = true)
    (h : AG ξ P nt (some id) (LeaveR id S) [.code asg, .beginRound, .code body] ⟨t', []⟩ H) : OS ξ P o G H S := by
  intro Φ μ w a K hR hE hK
  unfold yieldA at hf
  split at hf
  · rename_i f hcal
    split at hf
    · rename_i id' as' hfe has
      cases hf
      have hV := hE _ _ hfe
      have hA := evals_sound hE has
      cases hqv : a.eval f <;> rw [hqv] at hV <;> cases hV
      rename_i hid
      obtain ⟨L, h1, h2, h3, h4, h5, h6, h7, h8⟩ := hR.obj _ _ hg
      have hps : ∀ p ∈ ps, p < nt := fun p hp' => by
        have := List.all_eq_true.1 hlt p hp'
        rwa [Nat.blt_eq] at this
      obtain ⟨p1, p2, p3⟩ := putsA_sound (N := nt) hp hA h5 h4 hps
      let tmps' : Array Value := (ps.zip (c.args.toList.map a.eval)).foldl (fun tmps (t, a) => tmps.setIfInBounds t a) L.tmps
      have hrun : (execOp a.eval o).run P w = .ok (.round (μ id).block L.fn tmps' L.assign L.body) w := by
        have hsz : (c.args.map a.eval).size = L.params.size := by
          have : L.params.size = ps.length := by rw [← h6]; simp
          rw [this, ← p1]; simp
        have hfold : ((L.params.zip (c.args.map a.eval)).foldl (fun tmps (t, a) => tmps.setIfInBounds t a) L.tmps) = tmps' := by
          rw [← Array.foldl_toList, Array.toList_zip, h6, Array.toList_map]
        unfold execOp; rw [hc]
        simp only [resolve, hcal, hqv, Deferred.ofValue, Sem.run_bind, Sem.run_pure, Result.andThen_ok, invoke, Instr.yield]
        rw [show (#[] : Array Value) ++ c.args.map a.eval = c.args.map a.eval by simp, run_getLoop h1]
        simp only [Result.andThen_ok]
        rw [if_neg (by rw [hsz]; simp), Sem.run_pure, hfold]
      refine OW.round (by rw [hc]; simp) hrun ?_
      intro c0 cs
      let b : Frame := { (default : Frame) with fn := L.fn, kind := .normal, roundOf := some (μ id).block }
      have hfr : Frame.round (μ id).block L.fn tmps' L.assign L.body .normal = b.atR { tmps := tmps', defers := [] } [.code asg, .beginRound, .code body] := by
        simp [Frame.round, Frame.atR, b, h7, h8]
      obtain ⟨a', w', todo, j, F', H', g1, g2, ⟨Φ', μ', hS'⟩, st', pend', fn', nt', t'', ps', asg', body', k1, k2⟩ := h ⟨Φ, μ, H, w⟩ b (c0 :: cs) { tmps := tmps', defers := [] } w
        ⟨hid, rfl, rfl⟩ ⟨Φ, μ, ⟨p2, .nil, hR, T.refl _ _ _ _, p3⟩⟩
      obtain ⟨L', q1, q2, q3, q4, q5, q6, q7, q8⟩ := hS'.r.obj _ _ k1
      have hμ : μ' id = μ id := hS'.t.mu id hid
      have hset := loopSet_ok (st' := bif j.isNone then .ready else .done) (pend' := j) hS'.r k1 q1 q4 q5 q6 q7 q8
      have hend : (Instr.endRound (μ id).block j).run P w' = .ok (.bool j.isNone) (setObjW w' (μ' id).block (.loop { L' with state := bif j.isNone then .ready else .done, pending := j })) := by
        rw [← hμ]
        cases j <;> simp [Instr.endRound, run_getLoop q1, run_setLoop _ q1]
      have hlast : step P (lone (b.atR a' todo) (c0 :: cs) w') = .next (lone (c0.finish (.bool j.isNone)) cs (setObjW w' (μ' id).block (.loop { L' with state := bif j.isNone then .ready else .done, pending := j }))) := by
        cases j with
        | none =>
          have : todo = [] := g2
          subst this
          exact stepR_round_end rfl rfl hend
        | some code =>
          cases code <;> first
            | exact g2.elim
            | (obtain ⟨k, rfl⟩ := g2; exact stepR_round_ret rfl rfl hend)
            | (obtain ⟨k, rfl, hx⟩ := g2; exact stepR_round_exit rfl rfl hx hend)
      refine ⟨.bool j.isNone, _, hK _ _ _ _ _ _ k2 (.bool _ _) hset.1 (hS'.t.trans hset.2), ?_⟩
      rw [hfr]
      exact Steps.trans g1 (.one hlast)
    · cases hf
  · cases hf

theorem step_rangeFunc {b : Frame} {cs : List Frame} {a : Act} {w : World} {f : Operand} {ps : Array Tmp} {asg body : Code} {k : List Item} {g : FuncId} {cargs : Array Value} (hb : b.roundOf = none)
    (hr : (do let d ← resolve a.eval { callee := .value f, args := #[.const (.func (.yield (w.heap.size + 1)) #[] #[])], argTypes := #[] } 0; invoke d.target d.args : Sem Next).run P
        ((w.alloc (.deferred (some []))).alloc (.loop { state := .ready, pending := none, fn := b.fn, tmps := a.tmps, params := ps, assign := asg, body := body, defers := w.heap.size })) =
      .ok (.enter g cargs) ((w.alloc (.deferred (some []))).alloc (.loop { state := .ready, pending := none, fn := b.fn, tmps := a.tmps, params := ps, assign := asg, body := body, defers := w.heap.size }))) :
    step P (lone (b.atR a (.code (.rangeFunc f ps asg body) :: k)) cs w) =
      .next (lone (Frame.enter P g cargs .normal) (b.atR { a with defers := { target := .collected w.heap.size, args := #[] } :: a.defers } (.inRangeFunc (w.heap.size + 1) :: k) :: cs)
        ((w.alloc (.deferred (some []))).alloc (.loop { state := .ready, pending := none, fn := b.fn, tmps := a.tmps, params := ps, assign := asg, body := body, defers := w.heap.size }))) := by
  have he := Frame.eval_atR b a (.code (.rangeFunc f ps asg body) :: k)
  have hen : (Instr.enterLoop b.fn a.tmps ps asg body none).run P w = .ok (w.heap.size + 1, [{ target := .collected w.heap.size, args := #[] }])
      ((w.alloc (.deferred (some []))).alloc (.loop { state := .ready, pending := none, fn := b.fn, tmps := a.tmps, params := ps, assign := asg, body := body, defers := w.heap.size })) := by
    simp [Instr.enterLoop]
  have he2 : ({ b.atR a (.code (.rangeFunc f ps asg body) :: k) with todo := .inRangeFunc (w.heap.size + 1) :: k, defers := { target := .collected w.heap.size, args := #[] } :: a.defers } : Frame).eval = a.eval := funext fun x => by cases x <;> rfl
  refine step_lone_go ?_
  simp only [Frame.atR, hb] at he he2
  rw [Sem.run_bind] at hr
  simp [stepG, stepG.exec, stepG.apply, Frame.atR, hb, Sem.runT_eq, hen, he, he2, hr]

theorem step_endRangeFunc {b : Frame} {cs : List Frame} {a : Act} {w w' : World} {l : Nat} {k : List Item} {jump : Option Code} (hr : (Instr.endLoop l).run P w = .ok jump w') :
    step P (lone (b.atR a (.endRangeFunc l :: k)) cs w) = .next (lone (b.atR a ((jump.map Item.code).toList ++ k)) cs w') :=
  step_lone_go (by simp [stepG, stepG.exec, Frame.atR, Sem.runT_eq, hr])

/-- A loop over a function. -/
theorem AG.rangeFunc {N : Nat} {Q : Option Code → AF → AH → Prop} {k : List Item} {F : AF} {H : AH} {f : Operand} {ps : Array Tmp} {asg body : Code} {g fn : FuncId} {first cap : List AV} (hf : F.eval f = some (.func (.func g) first cap)) (hok : okFn P g = true)
    (h : AC ξ P g (first ++ [.yield (H.next + 1)] ++ cap) ((H.push .dfr).push (.loop .ready none fn N F.t ps.toList asg body)) (fun _ H' => ∃ st pend fn' nt t ps' asg' body', H'.get (H.next + 1) = some (.loop st pend fn' nt t ps' asg' body') ∧ st ≠ .busy ∧
      AG ξ P N none Q ((pend.map Item.code).toList ++ k) ⟨F.t, .coll H.next :: F.d⟩ (H'.set (H.next + 1) (.loop .exhausted pend fn' nt t ps' asg' body')))) : AG ξ P N none Q (.code (.rangeFunc f ps asg body) :: k) F H := by
  intro e b cs a w hfit hS
  have hb : b.roundOf = none := hfit
  obtain ⟨Φ, μ, hS1⟩ := hS
  have hV := hS1.ev _ _ hf
  cases hqv : a.eval f <;> rw [hqv] at hV <;> cases hV
  rename_i fs cs0 q1 q2 q3 q4
  let w1 : World := w.alloc (.deferred (some []))
  let L : Loop := { state := .ready, pending := none, fn := b.fn, tmps := a.tmps, params := ps, assign := asg, body := body, defers := w.heap.size }
  let w2 : World := w1.alloc (.loop L)
  have hR1 : R ξ Φ (upd μ H.next ⟨w.heap.size, 0, 0⟩) (H.push .dfr) w1 := hS1.r.push _ _ rfl (by simp [w1]) (fun b hb => alloc_old w _ b hb) (alloc_new w _)
  have hT1 : T Φ μ H w Φ (upd μ H.next ⟨w.heap.size, 0, 0⟩) (H.push .dfr) w1 := T.push hS1.r _ _ rfl (by simp [w1]) (fun b hb => alloc_old w _ b hb) rfl rfl rfl
  have hTR1 := hS1.tr.mono hT1.phi hT1.next hT1.mu
  have hR2 := hR1.push (.loop .ready none fn N F.t ps.toList asg body) ⟨w1.heap.size, 0, 0⟩ rfl (w' := w2) (by simp [w2]) (fun b hb => alloc_old w1 _ b hb)
    ⟨L, alloc_new w1 _, rfl, rfl, hS1.n, hTR1.mono (fun _ _ h => h) (Nat.le_succ _) (fun i hi => upd_other _ _ _ _ (Nat.ne_of_lt hi)), rfl, rfl, rfl⟩
  have hT2 := T.push hR1 (.loop .ready none fn N F.t ps.toList asg body) ⟨w1.heap.size, 0, 0⟩ rfl (w' := w2) (by simp [w2]) (fun b hb => alloc_old w1 _ b hb) rfl rfl rfl
  have hTT := hT1.trans hT2
  let μ2 := upd (upd μ H.next ⟨w.heap.size, 0, 0⟩) (H.push .dfr).next ⟨w1.heap.size, 0, 0⟩
  have hw1 : w1.heap.size = w.heap.size + 1 := by simp [w1]
  have hn1 : (H.push .dfr).next = H.next + 1 := rfl
  have hn2 : ((H.push .dfr).push (.loop .ready none fn N F.t ps.toList asg body)).next = H.next + 2 := rfl
  have hy : V ξ Φ μ2 (H.next + 2) (.func (.yield (w.heap.size + 1)) #[] #[]) (.yield (H.next + 1)) := by
    have := V.yield (ξ := ξ) (Φ := Φ) (μ := μ2) (H.next + 2) (H.next + 1) (by omega)
    have e1 : μ2 (H.next + 1) = ⟨w1.heap.size, 0, 0⟩ := by simp [μ2, hn1, upd_same]
    rw [e1] at this
    simp only [hw1] at this
    exact this
  have hfs : Vs ξ Φ μ2 (H.next + 2) fs first := Vs.mono (Φ := Φ) (μ := μ) (n := H.next) hTT.phi hTT.next hTT.mu ⟨q1, q2⟩
  have hcs : Vs ξ Φ μ2 (H.next + 2) cs0 cap := Vs.mono (Φ := Φ) (μ := μ) (n := H.next) hTT.phi hTT.next hTT.mu ⟨q3, q4⟩
  have hargs := (hfs.append (Vs.cons hy Vs.nil)).append hcs
  obtain ⟨en, w3, fr, ⟨v, z, H3, Φ3, μ3, rfl, g1, g2, g3, st, pend, fn', nt, t, ps', asg', body', k1, k2, k3⟩, hsteps, _, hleave⟩ := h Φ μ2 w2 _ hR2 hargs (b.atR { a with defers := { target := .collected w.heap.size, args := #[] } :: a.defers } (.inRangeFunc (w.heap.size + 1) :: k) :: cs)
  have hr : (do let d ← resolve a.eval { callee := .value f, args := #[.const (.func (.yield (w.heap.size + 1)) #[] #[])], argTypes := #[] } 0; invoke d.target d.args : Sem Next).run P w2 =
      .ok (.enter g (fs ++ [Value.func (.yield (w.heap.size + 1)) #[] #[]] ++ cs0).toArray) w2 := by
    have e1 : (fs.toArray ++ #[Value.func (.yield (w.heap.size + 1)) #[] #[]]) ++ cs0.toArray = (fs ++ [Value.func (.yield (w.heap.size + 1)) #[] #[]] ++ cs0).toArray := by apply Array.ext'; simp
    have e2 : (#[Operand.const (.func (.yield (w.heap.size + 1)) #[] #[])]).map a.eval = #[Value.func (.yield (w.heap.size + 1)) #[] #[]] := by simp [Act.eval]
    simp only [resolve, hqv, e2, Deferred.ofValue, Sem.run_bind, Sem.run_pure, Result.andThen_ok, invoke]
    rw [callFunc_ok hok, e1]
  have hs1 := step_rangeFunc (P := P) (cs := cs) (k := k) hb hr
  have hs2 := step_leave_returned (P := P) (c := b.atR { a with defers := { target := .collected w.heap.size, args := #[] } :: a.defers } (.inRangeFunc (w.heap.size + 1) :: k)) (cs := cs) hleave
  have hfin : (b.atR { a with defers := { target := .collected w.heap.size, args := #[] } :: a.defers } (.inRangeFunc (w.heap.size + 1) :: k)).finish v = b.atR { a with defers := { target := .collected w.heap.size, args := #[] } :: a.defers } (.endRangeFunc (w.heap.size + 1) :: k) := by
    simp [Frame.finish, Frame.atR]
  rw [hfin] at hs2
  obtain ⟨L3, r1, r2, r3, r4, r5, r6, r7, r8⟩ := g2.obj _ _ k1
  have hμ3 : (μ3 (H.next + 1)).block = w.heap.size + 1 := by
    rw [g3.mu (H.next + 1) (by rw [hn2]; omega)]
    have e1 : μ2 (H.next + 1) = ⟨w1.heap.size, 0, 0⟩ := by simp [μ2, hn1, upd_same]
    show (μ2 (H.next + 1)).block = _
    rw [e1]; exact hw1
  have hset := loopSet_ok (st' := .exhausted) (pend' := pend) g2 k1 r1 r4 r5 r6 r7 r8
  have hend : (Instr.endLoop (w.heap.size + 1)).run P w3 = .ok pend (setObjW w3 (μ3 (H.next + 1)).block (.loop { L3 with state := .exhausted, pending := pend })) := by
    rw [← hμ3]
    have hnb : (L3.state == LoopState.busy) = false := by
      rw [r2]; cases st <;> first | rfl | exact absurd rfl k2
    have e1 : ({ L3 with state := LoopState.exhausted, pending := pend } : Loop) = { L3 with state := .exhausted } := by rw [← r3]
    rw [e1]
    have hnb' : ¬ L3.state = LoopState.busy := fun e => by rw [e] at hnb; cases hnb
    simp [Instr.endLoop, run_getLoop r1, hnb', run_setLoop _ r1, r3]
  have hs3 := step_endRangeFunc (P := P) (b := b) (cs := cs) (a := { a with defers := { target := .collected w.heap.size, args := #[] } :: a.defers }) (k := k) hend
  have hTall := (hTT.trans g3).trans hset.2
  have hcoll : (μ3 H.next).block = w.heap.size := by
    rw [g3.mu H.next (by rw [hn2]; omega)]
    have e1 : μ2 H.next = ⟨w.heap.size, 0, 0⟩ := by
      show upd _ _ _ _ = _
      rw [upd_other _ _ _ _ (by rw [hn1]; omega), upd_same]
    show (μ2 H.next).block = _
    rw [e1]
  have hdr := DR.coll (ξ := ξ) (Φ := Φ3) (μ := μ3) (n := (H3.set (H.next + 1) (.loop .exhausted pend fn' nt t ps' asg' body')).next) H.next a.defers F.d
    (by have := g3.next; rw [hn2] at this; show H.next < H3.next; omega) (hS1.dr.mono hTall.phi hTall.next hTall.mu)
  rw [hcoll] at hdr
  obtain ⟨a', w', todo, j, F', H', m1, m2⟩ := k3 e b cs { a with defers := { target := .collected w.heap.size, args := #[] } :: a.defers } _ hfit
    ⟨Φ3, μ3, ⟨hS1.tr.mono hTall.phi hTall.next hTall.mu, hdr, hset.1, hS1.t.trans hTall, hS1.n⟩⟩
  exact ⟨a', w', todo, j, F', H', .head hs1 (Steps.trans hsteps (.head hs2 (.head hs3 m1))), m2⟩
end
end Go.Ai
end
