/- THE EVALUATOR: soundness. -/
import Derived.Test.YtaghpkljmnpjoaaGreatDoorEL
set_option linter.unusedVariables false
set_option linter.unusedSimpArgs false
noncomputable section
namespace Go.Ai
variable {ξ : Env}
section
variable {P : Program} {C : Ctx} {rec : Rec}

theorem leaveR_ok {fi : FI} {j : Option Code} {x : X} {F : AF} {H : AH} {ret : Ret} {det : Bool} {k : List Item} (hag : ∀ Q : Option Code → AF → AH → Prop, Q j F H → AG ξ P fi.N fi.lv.rnd Q k F H)
    (h : leaveR P fi j x F H ret = true) (hx : x.holds ξ) : Res det (Acc ξ ret) (Sem1 ξ P fi F H (.items k)) := by
  unfold leaveR at h
  split at h
  · rename_i z H' hl
    exact Res.single (AGmono (lv := fi.lv)) (hag _ (leaveA_ok hl ⟨rfl, rfl⟩)) ⟨x, hx, h⟩
  · cases h

theorem okIs_code {pl : Nat → Option (List PK)} {N : Nat} {c : Code} {k : List Item} (h : okIs pl N (.code c :: k) = true) : okC pl N c = true ∧ okIs pl N k = true := by
  simpa [okIs, okI] using h

theorem rangeR_ok (hC : CtxOk ξ P C) (hr : RecOk ξ P C rec) {det : Bool} {fi : FI} {f : Operand} {ps : Array Tmp} {asg body : Code} {k : List Item} {x : X} {F : AF} {H : AH} {ret : Ret} (h : rangeR C P rec det fi f ps asg body k x F H ret = true) (hx : x.holds ξ)
    (hk : okIs (C.pl fi.g) fi.N k = true) : Res det (Acc ξ ret) (Sem1 ξ P fi F H (.items (.code (.rangeFunc f ps asg body) :: k))) := by
  obtain ⟨fg, fN, lv⟩ := fi
  unfold rangeR at h
  simp only at h hk
  split at h
  · rename_i lv rs
    split at h
    · rename_i g first cap hf
      cases hok : okFn P g
      · rw [hok] at h; cases h
      · rw [hok] at h
        simp only [cond_true] at h
        have hcall := callR_ok hC hr h hx
        refine Res.bind (D := fun _ H' S => ∃ st pend fn' nt t ps' asg' body', H'.get (H.next + 1) = some (.loop st pend fn' nt t ps' asg' body') ∧ st ≠ .busy ∧
          AG ξ P fN none (Leave ξ P (.fn rs) S) ((pend.map Item.code).toList ++ k) ⟨F.t, .coll H.next :: F.d⟩ (H'.set (H.next + 1) (.loop .exhausted pend fn' nt t ps' asg' body'))) hcall ?_ ?_
        · rintro z H' ⟨x', hx', hret⟩
          simp only at hret
          split at hret
          · rename_i st pend fn nt t ps' asg' body' hg
            split at hret
            · cases hret
            rename_i hnb
            have hnb : st ≠ .busy := fun e => hnb e
            split at hret
            · have := hr _ _ _ _ _ _ _ hret hx' (by simpa [okT] using hk)
              exact this.map (fun Q hQ => ⟨st, none, fn, nt, t, ps', asg', body', hg, hnb, hQ⟩)
            · rename_i c
              cases hoc : okC (C.pl fg) fN c
              · rw [hoc] at hret; cases hret
              · rw [hoc] at hret
                have := hr _ _ _ _ _ _ _ hret hx' (by simp only [okT, okIs, List.all_cons, Bool.and_eq_true]; exact ⟨hoc, hk⟩)
                exact this.map (fun Q hQ => ⟨st, some c, fn, nt, t, ps', asg', body', hg, hnb, hQ⟩)
          · cases hret
        · intro Q U hU hd
          exact AG.rangeFunc hf hok (hU.mono (fun z H' hz => hd z H' hz))
    · cases h
  · cases h

theorem codeR_ok (hC : CtxOk ξ P C) (hr : RecOk ξ P C rec) {det : Bool} {fi : FI} {c : Code} {k : List Item} {x : X} {F : AF} {H : AH} {ret : Ret} (h : codeR C P rec det fi c k x F H ret = true) (hx : x.holds ξ)
    (hk : okIs (C.pl fi.g) fi.N (.code c :: k) = true) : Res det (Acc ξ ret) (Sem1 ξ P fi F H (.items (.code c :: k))) := by
  obtain ⟨hc, hk0⟩ := okIs_code hk
  have cons : ∀ {i : Item} {l : List Item}, okI (C.pl fi.g) fi.N i = true → okIs (C.pl fi.g) fi.N l = true → okIs (C.pl fi.g) fi.N (i :: l) = true := fun h1 h2 => by
    simp only [okIs, List.all_cons, Bool.and_eq_true]; exact ⟨h1, h2⟩
  unfold codeR at h
  split at h
  · exact (hr _ _ _ _ _ _ _ h hx hk0).map (fun Q hQ => AG.skip hQ)
  · exact (hr _ _ _ _ _ _ _ h hx hk0).map (fun Q hQ => AG.label hQ)
  · simp only [okC, Bool.and_eq_true] at hc
    exact (hr _ _ _ _ _ _ _ h hx (cons hc.1 (cons hc.2 hk0))).map (fun Q hQ => AG.seq hQ)
  · simp only [okC, Bool.and_eq_true] at hc
    split at h
    · rename_i t ht
      refine (hr _ _ _ _ _ _ _ h hx (cons ?_ hk0)).map (fun Q hQ => AG.cond ht hQ)
      cases t
      · exact hc.2
      · exact hc.1
    · cases h
  · exact (hr _ _ _ _ _ _ _ h hx (cons hc (cons rfl hk0))).map (fun Q hQ => AG.block hQ)
  · exact (hr _ _ _ _ _ _ _ h hx (cons hc (cons hc hk0))).map (fun Q hQ => AG.loop hQ)
  · exact (hr _ _ _ _ _ _ _ h hx (cons hc (cons hc hk0))).map (fun Q hQ => AG.scope hQ)
  · split at h
    · rename_i k' hx'
      exact (hr _ _ _ _ _ _ _ h hx (exitTo_ok hx' hk0)).map (fun Q hQ => AG.exit hx' hQ)
    · rename_i hx'
      exact leaveR_ok (fun Q hQ => AG.out hx' hQ) h hx
  · exact leaveR_ok (fun Q hQ => AG.ret hQ) h hx
  · rename_i id ops d
    cases d with
    | true =>
      simp only [cond_true, okC] at h hc
      split at h
      · rename_i p hp
        rw [hp] at hc
        refine (hr _ _ _ _ _ _ _ h hx ⟨hk0, fun q hq => by cases hq⟩).map (fun Q hQ => AG.draw p hC.mixed hc hQ)
      · cases h
    | false =>
      simp only [cond_false, okC] at h hc
      exact (hr _ _ _ _ _ _ _ h hx hk0).map (fun Q hQ => AG.region hc hQ)
  · exact rangeR_ok hC hr h hx hk0
  · cases h

theorem itemsR_ok (hC : CtxOk ξ P C) (hr : RecOk ξ P C rec) {det : Bool} {fi : FI} {k : List Item} {x : X} {F : AF} {H : AH} {ret : Ret} (h : itemsR C P rec det fi k x F H ret = true) (hx : x.holds ξ)
    (hk : okIs (C.pl fi.g) fi.N k = true) : Res det (Acc ξ ret) (Sem1 ξ P fi F H (.items k)) := by
  unfold itemsR at h
  split at h
  · exact leaveR_ok (fun Q hQ => AG.done hQ) h hx
  · exact codeR_ok hC hr h hx hk
  · rename_i id k
    have hk' : okIs (C.pl fi.g) fi.N k = true := by simpa [okIs, okI] using hk
    exact (hr _ _ _ _ _ _ _ h hx hk').map (fun Q hQ => AG.inBlock hQ)
  · rename_i c k
    have hk' : okIs (C.pl fi.g) fi.N k = true := by
      simp only [okIs, List.all_cons, Bool.and_eq_true] at hk
      exact hk.2
    exact (hr _ _ _ _ _ _ _ h hx hk').map (fun Q hQ => AG.inScope hQ)
  · rename_i c k
    have hk' : okIs (C.pl fi.g) fi.N (.code c :: .inLoop c :: k) = true := by
      simp only [okIs, List.all_cons, Bool.and_eq_true, okI] at hk ⊢
      exact ⟨hk.1, hk⟩
    exact (hr _ _ _ _ _ _ _ h hx hk').map (fun Q hQ => AG.inLoop hQ)
  · rename_i k
    have hk' : okIs (C.pl fi.g) fi.N k = true := by simpa [okIs, okI] using hk
    obtain ⟨fg, fN, lv⟩ := fi
    simp only at h
    split at h
    · rename_i id
      split at h
      · rename_i pend fn nt t ps asg body hg
        exact (hr _ _ _ _ _ _ _ h hx hk').map (fun Q hQ => AG.beginRound hg hQ)
      · cases h
    · cases h
  · cases h

theorem opsR_ok (hC : CtxOk ξ P C) (hr : RecOk ξ P C rec) {det : Bool} {fi : FI} {all rest : List Oper} {k : List Item} {x : X} {F : AF} {H : AH} {ret : Ret} (h : opsR C P rec det fi all rest k x F H ret = true) (hx : x.holds ξ)
    (hk : okIs (C.pl fi.g) fi.N k = true) : Res det (Acc ξ ret) (Sem1 ξ P fi F H (.ops all rest k)) := by
  unfold opsR at h
  split at h
  · exact (hr _ _ _ _ _ _ _ h hx hk).map (fun Q hQ => AR.nil hQ)
  · rename_i o rest
    split at h
    · cases h
    · rename_i hw
      exact (hr _ _ _ _ _ _ _ h hx hk).map (fun Q hQ => AR.off hw hQ)
    · rename_i hw
      split at h
      · rename_i c hc
        obtain ⟨fg, fN, lv⟩ := fi
        simp only at h
        split at h
        · rename_i rs d hd
          exact (hr _ _ _ _ _ _ _ h hx hk).map (fun Q hQ => AR.defer hw hc hd hQ)
        · cases h
      · have := operR_ok hC hr h hx
        refine Res.bind (D := fun z H' S => Sem1 ξ P fi (F.put o.dst z) H' (.ops all rest k) S) this ?_ ?_
        · rintro z H' ⟨x', hx', hret⟩
          exact hr _ _ _ _ _ _ _ hret hx' hk
        · intro Q U hU hd
          exact AR.on hw hU (fun z H' hz => hd z H' hz)

theorem againR_ok {x : X} (hx : x.holds ξ) {H : AH} {G : AF} {o : Oper} {z : AV} (h : againR P x H G o z = true) : PS ξ P H o G z := by
  unfold againR at h
  split at h
  · rename_i z' hz
    have hp := popY_ok (ξ := ξ) hx hz
    split at h
    · rename_i n b
      split at h
      · rename_i t ht
        have e := AV.beq_eq h
        subst e
        refine hp.conv (fun Φ μ k v hv => ?_)
        cases hv
        rename_i hv
        rw [hv, SV.eval, X.dec_ok hx ht]; exact .bool _ _
      · cases h
    · have e := AV.beq_eq h
      subst e
      exact hp
  · cases h
theorem stagesR_ok {x : X} (hx : x.holds ξ) {lo hi s : Nat} {G : AF} {o : Oper} {z : AV} : ∀ {st : List AH} {i : Nat}, stagesR P x lo hi s G o z i st = true → ∀ j Hj, st[j]? = some Hj → i + j ≠ s → lo ≤ i + j → i + j ≤ hi → PS ξ P Hj o G z
  | [], i, h, j, Hj, hj, _, _, _ => by simp at hj
  | H :: r, i, h, j, Hj, hj, hne, hlo, hhi => by
    simp only [stagesR, Bool.and_eq_true, Bool.or_eq_true] at h
    cases j with
    | zero =>
      simp only [List.getElem?_cons_zero, Option.some.injEq] at hj
      subst hj
      rcases h.1 with h1 | h1 | h1 | h1
      · exact absurd (Nat.eq_of_beq_eq_true h1) (by simpa using hne)
      · rw [Nat.blt_eq] at h1; omega
      · rw [Nat.blt_eq] at h1; omega
      · exact againR_ok hx h1
    | succ j =>
      simp only [List.getElem?_cons_succ] at hj
      exact stagesR_ok hx h.2 j Hj hj (by omega) (by omega) (by omega)
theorem rdsR_ok {x : X} (hx : x.holds ξ) {st : List AH} : ∀ {rd : List (Nat × Nat × Nat × AF × Oper × AV)}, rdsR P x st rd = true → (∀ q ∈ rd, ∃ Hs, st[q.2.2.1]? = some Hs ∧ PS ξ P Hs q.2.2.2.2.1 q.2.2.2.1 q.2.2.2.2.2) →
    ∀ q ∈ rd.map (fun q => (q.1, q.2.1, q.2.2.2.1, q.2.2.2.2.1, q.2.2.2.2.2)), ∀ k Hk, q.1 ≤ k → k ≤ q.2.1 → st[k]? = some Hk → PS ξ P Hk q.2.2.2.1 q.2.2.1 q.2.2.2.2
  | [], _, _, q, hq => by cases hq
  | (lo, hi, s, G, o, z) :: r, h, hs, q, hq => by
    simp only [rdsR, Bool.and_eq_true] at h
    simp only [List.map_cons, List.mem_cons] at hq
    rcases hq with rfl | hq
    · intro k Hk h1 h2 h3
      by_cases hk : k = s
      · obtain ⟨Hs, e1, e2⟩ := hs _ List.mem_cons_self
        simp only at e1 e2 ⊢
        subst hk
        rw [h3] at e1
        cases e1
        exact e2
      · exact stagesR_ok hx h.1 k Hk h3 (by omega) (by simpa using h1) (by simpa using h2)
    · exact rdsR_ok hx h.2 (fun q hq => hs q (List.mem_cons_of_mem _ hq)) q hq

theorem popX_nil {H : AH} {x : X} {F : AF} {op : Op} {n : Nat} : popY P x ⟨.nil, n, []⟩ F op = popY P x ⟨.nil, 0, []⟩ F op := by
  have h1 : pop P ⟨.nil, n, []⟩ F op = pop P ⟨.nil, 0, []⟩ F op := by
    cases op <;> rfl
  have h2 : ptrA P ⟨.nil, n, []⟩ F op = ptrA P ⟨.nil, 0, []⟩ F op := by
    cases op <;> rfl
  have h3 : sliceArr P ⟨.nil, n, []⟩ F op = sliceArr P ⟨.nil, 0, []⟩ F op := by
    cases op <;> rfl
  have h4 : entryA ⟨.nil, n, []⟩ F op = entryA ⟨.nil, 0, []⟩ F op := by
    cases op <;> rfl
  unfold popY popX
  rw [h1, h2, h3, h4]

theorem rowA_ok {F : AF} {o : Oper} {cs : List AV} {s : Shp} (h : rowA P F o.op = some (cs, s)) : FS ξ P o F cs s := by
  obtain ⟨dst, op, type, pos, after, guard⟩ := o
  simp only at h
  unfold rowA at h
  split at h
  · rename_i t
    split at h
    · rename_i z hz
      cases hf : z.flat
      · rw [hf] at h; cases h
      · rw [hf] at h
        cases h
        exact FS.alloc rfl hz hf
    · cases h
  · rename_i t len ps
    split at h
    · rename_i e ag m xs h1 hp
      split at h
      · rename_i m' cs' h2 h6
        cases hc : (Nat.beq m m' && (!Nat.beq len 0 && (Nat.beq xs.length len && (inOrder 0 xs && (Nat.ble (len * m) 16777216 && Nat.ble (len * m) cs'.length)))))
        · rw [hc] at h; cases h
        · rw [hc] at h
          cases h
          simp only [Bool.and_eq_true, Bool.not_eq_true'] at hc
          obtain ⟨hm, h0, h3, h4, h5, hfit⟩ := hc
          have hm := Nat.eq_of_beq_eq_true hm
          subst hm
          refine ⟨Nat.le_of_ble_eq_true hfit, by simp, fun Φ μ n w a hE => ?_⟩
          have hu := parts_sound hE hp
          obtain ⟨hun, hs⟩ := elemShp_spec h1
          obtain ⟨zv, hz1, hz2, hm0, hz3⟩ := zeroInfo_spec h2
          have hlen := Nat.eq_of_beq_eq_true h3
          have hl0 : ¬ len = 0 := fun h => by rw [h] at h0; cases h0
          have harr : ((Array.range (len * m)).map (fun i => zv.cells[i % zv.cells.size]!)).toList.length = xs.length * m := by simp [hlen]
          obtain ⟨arr', vs, g1, g2, g3⟩ := fill_cat (m := m) 0 ((Array.range (len * m)).map (fun i => zv.cells[i % zv.cells.size]!)) [] h4 h6 hu ⟨_, rfl, harr⟩ (by simp)
          simp only [List.nil_append] at g2
          refine ⟨vs, e, ?_, g3⟩
          have e1 : arr' = vs.toArray := by apply Array.ext'; simp [g2]
          have hne : ¬ len * m = 0 := Nat.mul_ne_zero hl0 hm0
          have hb2 : ¬ len * m > 2 ^ 24 := Nat.not_lt.2 (Nat.le_of_ble_eq_true h5)
          have g1' : Instr.fill (fun i => some (i * m, m)) ((Array.range (len * m)).map (fun i => zv.cells[i % zv.cells.size]!)) (ps.map fun (i, x) => (i, a.eval x)).toList = some arr' := by
            rw [← g1]; simp
          unfold execOp
          simp only [Instr.buildSlice, run_underlying hun, Sem.run_bind, Result.andThen_ok, shp_size hs, if_neg hb2, if_neg hne, hz1, Sem.run_pure, g1', e1]
          rfl
      · cases h
    · cases h
  · cases h

theorem drawR_ok (hC : CtxOk ξ P C) (hr : RecOk ξ P C rec) {det : Bool} {fi : FI} {all : List Oper} {rest : List (Oper × PK)} {prev : List AH} {rd : List (Nat × Nat × Nat × AF × Oper × AV)} {k : List Item} {x : X} {F : AF} {H : AH} {ret : Ret}
    (h : drawR C P rec det fi all rest prev rd k x F H ret = true) (hx : x.holds ξ) (hk : okT ξ P C fi H (.draw all rest prev rd k)) : Res det (Acc ξ ret) (Sem1 ξ P fi F H (.draw all rest prev rd k)) := by
  obtain ⟨hk0, hrd⟩ := hk
  -- one stage more
  have more : ∀ {all : List Oper} {rest : List (Oper × PK)} {H' : AH}, okT ξ P C fi H' (.draw all rest (H :: prev) rd k) := fun {all rest H'} => ⟨hk0, fun q hq => by
    obtain ⟨Hs, h1, h2⟩ := hrd q hq
    refine ⟨Hs, ?_, h2⟩
    have e : (H :: prev).reverse ++ [H'] = (prev.reverse ++ [H]) ++ [H'] := by simp
    rw [e, List.getElem?_append_left (List.getElem?_eq_some_iff.1 h1).1]
    exact h1⟩
  have same : ∀ {all : List Oper} {rest : List (Oper × PK)}, okT ξ P C fi H (.draw all rest prev rd k) := ⟨hk0, hrd⟩
  unfold drawR at h
  split at h
  · simp only [Bool.and_eq_true] at h
    exact (hr _ _ _ _ _ _ _ h.2 hx hk0).map (fun Q hQ => ⟨rdsR_ok hx h.1 hrd, hQ⟩)
  · rename_i o pk rest
    split at h
    · cases h
    · rename_i hw
      split at h
      · exact (hr _ _ _ _ _ _ _ h hx more).map (fun Q hQ => ⟨false, hw, hQ⟩)
      · exact (hr _ _ _ _ _ _ _ h hx more).map (fun Q hQ => ⟨false, hw, hQ⟩)
      · rename_i hne1 hne2
        cases pk with
        | p => exact (hr _ _ _ _ _ _ _ h hx same).map (fun Q hQ => ⟨false, hw, hQ⟩)
        | r lo hi => exact (hr _ _ _ _ _ _ _ h hx same).map (fun Q hQ => ⟨false, hw, hQ⟩)
        | e => exact (hne1 rfl).elim
        | f => exact (hne2 rfl).elim
    · rename_i hw
      split at h
      · split at h
        · rename_i z hz
          obtain ⟨x', z', h1, h2, h3⟩ := askR_ok h hx
          refine (hr _ _ _ _ _ _ _ h2 h1 same).map (fun Q hQ => ⟨true, hw, z', fun n => ?_, hQ⟩)
          exact (popY_ok hx ((popX_nil (H := H)).trans hz)).conv h3
        · cases h
      · rename_i lo hi
        split at h
        · rename_i z hz
          obtain ⟨x', z', h1, h2, h3⟩ := askR_ok h hx
          have hps := (popY_ok (ξ := ξ) hx hz).conv h3
          refine (hr _ _ _ _ _ _ _ h2 h1 ⟨hk0, fun q hq => ?_⟩).map (fun Q hQ => ⟨true, hw, z', hps, hQ⟩)
          rcases List.mem_cons.1 hq with rfl | hq
          · exact ⟨H, by simp, hps⟩
          · exact hrd q hq
        · cases h
      · obtain ⟨z, H', ⟨x', hx', hret⟩, hos⟩ := operR_ok hC hr h hx
        exact (hr _ _ _ _ _ _ _ hret hx' more).map (fun Q hQ => ⟨true, hw, z, H', hos, hQ⟩)
      · split at h
        · rename_i cs s hrow
          exact (hr _ _ _ _ _ _ _ h hx more).map (fun Q hQ => ⟨true, hw, cs, s, rowA_ok hrow, hQ⟩)
        · cases h

theorem run_ok (hC : CtxOk ξ P C) : ∀ n, RecOk ξ P C (run C P n)
  | 0 => fun det fi t x F H ret h => by cases h
  | n + 1 => by
    intro det fi t x F H ret h hx ht
    have hr := run_ok hC n
    cases t with
    | items k => exact itemsR_ok hC hr h hx ht
    | ops all rest k => exact opsR_ok hC hr h hx ht
    | draw all rest prev rd k => exact drawR_ok hC hr h hx ht

/-- A CALL, COMPUTED. -/
theorem AC.run (hC : CtxOk ξ P C) (n : Nat) {g : Nat} {as : List AV} {x : X} {H : AH} {ret : Ret} (h : callR C (Ai.run C P n) false g as x H ret = true) (hx : x.holds ξ) : AC ξ P g as H (Acc ξ ret) :=
  callR_ok (det := false) hC (run_ok hC n) h hx
end
end Go.Ai
end
