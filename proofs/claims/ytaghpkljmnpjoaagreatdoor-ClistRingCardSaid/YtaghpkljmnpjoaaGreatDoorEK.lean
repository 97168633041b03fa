/- THE EVALUATOR: ranges over maps. -/
import Derived.Test.YtaghpkljmnpjoaaGreatDoorEJ
set_option linter.unusedVariables false
set_option linter.unusedSimpArgs false
noncomputable section
namespace Go.Ai
variable {ξ : Env}
section
variable {P : Program} {Φ : Nat → Option Obj} {μ : Nat → Pl}

def rangeA (P : Tab) (H : AH) (F : AF) (op : Op) : Option (AV × AH) :=
  match op with
  | .range t x => match P.underlying t, F.eval x with
    | some (.map _ _), some .nilmap => some (.ptr H.next 0, H.push (.miter none 0 0 []))
    | some (.map _ _), some (.map id) => match H.get id with
      | some (.map _ _ c) => some (.ptr H.next 0, H.push (.miter (some id) c c []))
      | _ => none
    | _, _ => none
  | _ => none
theorem rangeA_ok {H H' : AH} {F : AF} {o : Oper} {z : AV} (h : rangeA P H F o.op = some (z, H')) : ES ξ P o F H z H' := by
  intro Φ μ w a K hR hE hK
  obtain ⟨dst, op, type, pos, after, guard⟩ := o
  simp only at h
  cases op with
  | range t x =>
    simp only [rangeA] at h
    have go : ∀ (ob : Obj) (m : Option Nat) (k : Nat), (Instr.range t (a.eval x)).run P w = .ok (.pointer (some ⟨w.heap.size, 0, none⟩)) (w.alloc ob) →
        OR ξ Φ (upd μ H.next ⟨w.heap.size, 0, 0⟩) (H.next + 1) (w.alloc ob) ⟨w.heap.size, 0, 0⟩ (.miter m k k []) → z = .ptr H.next 0 → H' = H.push (.miter m k k []) →
        OW P ⟨dst, .range t x, type, pos, after, guard⟩ a w K := by
      intro ob m k hrun hor hz hH
      subst hz; subst hH
      refine OW.value (by simp) (v := .pointer (some ⟨w.heap.size, 0, none⟩)) (w' := w.alloc ob) (by simp [execOp, hrun]) (hK _ _ _ _ _ _ ⟨rfl, rfl⟩ (ptr_new (w := w) ⟨w.heap.size, 0, 0⟩ rfl rfl _)
        (hR.push _ _ rfl (by simp) (fun b hb => alloc_old w _ b hb) hor) (T.push hR _ _ rfl (by simp) (fun b hb => alloc_old w _ b hb) rfl rfl rfl))
    split at h
    · rename_i kt et hun hx
      cases h
      have hV := hE _ _ hx
      cases hq : a.eval x <;> rw [hq] at hV <;> cases hV
      exact go (.mapIter none 0 #[] 0) none 0 (by simp [Instr.range, run_underlying hun, hq]) ⟨none, 0, 0, #[], alloc_new w _, rfl, ⟨rfl, Nat.le_refl _, rfl⟩, rfl, rfl⟩ rfl rfl
    · rename_i kt et id hun hx
      split at h
      · rename_i es bs c hg
        cases h
        have hV := hE _ _ hx
        cases hq : a.eval x <;> rw [hq] at hV <;> cases hV
        rename_i hid
        obtain ⟨en, h1, h2, h3, h4, h5⟩ := hR.obj _ _ hg
        refine go (.mapIter (some (μ id).block) c #[] c) (some id) c (by simp [Instr.range, run_underlying hun, hq, run_getObj_map h1]) ⟨_, c, c, #[], alloc_new w _, rfl, ⟨rfl, Nat.le_refl _, rfl⟩, rfl, ?_⟩ rfl rfl
        exact ⟨Nat.lt_succ_of_lt hid, by rw [upd_other _ _ _ _ (Nat.ne_of_lt hid)]⟩
      · cases h
    · cases h
  | _ => simp only [rangeA] at h; cases h

/-- Entries that are still to come. -/
def leftL (seen : List Nat) : List (AV × AV) → List Nat → List (Nat × AV × AV)
  | (k, v) :: r, b :: bs => bif seen.contains b then leftL seen r bs else (b, k, v) :: leftL seen r bs
  | _, _ => []
def nextOuts (H : AH) (r m since clock : Nat) (seen : List Nat) (l : List (Nat × AV × AV)) : List (AV × AH) :=
  bif l.any (fun q => Nat.blt q.1 since) then l.map fun q => (AV.tuple [.bool true, q.2.1, q.2.2], H.set r (.miter (some m) since clock (seen ++ [q.1])))
  else (.tuple [.bool false], H) :: l.map fun q => (AV.tuple [.bool true, q.2.1, q.2.2], H.set r (.miter (some m) since clock (seen ++ [q.1])))
def nextA (H : AH) (F : AF) (op : Op) : Option (List (AV × AH)) :=
  match op with
  | .next it false => match F.eval it with
    | some (.ptr r 0) => match H.get r with
      | some (.miter none _ _ _) => some [(.tuple [.bool false], H)]
      | some (.miter (some m) since _ seen) => match H.get m with
        | some (.map es bs clock) =>
          bif Nat.ble since clock && (seen.isEmpty || (es.isEmpty || bs.any (fun b => Nat.blt b since))) then some (nextOuts H r m since clock seen (leftL seen es bs)) else none
        | _ => none
      | _ => none
    | _ => none
  | _ => none

theorem leftL_spec {seen : List Nat} {Φ : Nat → Option Obj} {μ : Nat → Pl} : ∀ {es : List (AV × AV)} {bs : List Nat} {en : List MapEntry}, Vm ξ Φ μ en es → en.map (·.born) = bs →
    (leftL seen es bs).map (·.1) = (en.filter fun e => !seen.contains e.born).map (·.born) ∧
    ∀ e ∈ en.filter (fun e => !seen.contains e.born), ∃ k v, (e.born, k, v) ∈ leftL seen es bs ∧ V ξ Φ μ 0 e.key k ∧ V ξ Φ μ 0 e.val v
  | [], bs, en, hm, hb => by
    have : en = [] := by have := hm.1; simpa using this
    subst this
    simp at hb; subst hb
    simp [leftL]
  | (k, v) :: es, bs, en, hm, hb => by
    cases en with
    | nil => have := hm.1; simp at this
    | cons e en =>
      simp only [List.map_cons] at hb
      subst hb
      have h0 := hm.2 0 e (k, v) rfl rfl
      have hm' : Vm ξ Φ μ en es := ⟨by have := hm.1; simpa using this, fun j e p e1 e2 => hm.2 (j + 1) e p (by simpa using e1) (by simpa using e2)⟩
      obtain ⟨i1, i2⟩ := leftL_spec (seen := seen) hm' rfl
      simp only [leftL]
      cases hc : seen.contains e.born
      · simp only [cond_false]
        refine ⟨by simp only [List.map_cons, i1]; rw [List.filter_cons_of_pos (by simp [hc] <;> simpa using hc)]; rfl, fun x hx => ?_⟩
        rw [List.filter_cons_of_pos (by simpa using hc)] at hx
        rcases List.mem_cons.1 hx with rfl | hx
        · exact ⟨k, v, List.mem_cons_self, h0.1, h0.2⟩
        · obtain ⟨k', v', q1, q2⟩ := i2 x hx
          exact ⟨k', v', List.mem_cons_of_mem _ q1, q2⟩
      · simp only [cond_true]
        refine ⟨by rw [i1, List.filter_cons_of_neg (by simpa using hc)], fun x hx => ?_⟩
        rw [List.filter_cons_of_neg (by simpa using hc)] at hx
        exact i2 x hx

theorem run_mapNext (w : World) (n : Nat) (hn : 0 < n) : ∃ j w1, (choose (.mapNext n)).run P w = .ok j w1 ∧ j < n ∧ w1.heap = w.heap ∧ w1.os = w.os ∧ w1.tape = w.tape ∧ w1.output = w.output := by
  by_cases h : n ≤ 1
  · refine ⟨0, w, ?_, hn, rfl, rfl, rfl, rfl⟩
    simp [choose, Sem.run, Question.forced, h]
  · refine ⟨w.tape w.drawn (.mapNext n) % n, { w with drawn := w.drawn + 1 }, ?_, Nat.mod_lt _ hn, rfl, rfl, rfl, rfl⟩
    simp [choose, Sem.run, Question.forced, Question.cut, h]

theorem nextA_ok {H : AH} {F : AF} {o : Oper} {l : List (AV × AH)} (h : nextA H F o.op = some l) : OS ξ P o F H (fun z H' => (z, H') ∈ l) := by
  intro Φ μ w a K hR hE hK
  obtain ⟨dst, op, type, pos, after, guard⟩ := o
  simp only at h
  unfold nextA at h
  split at h
  · rename_i it
    split at h
    · rename_i r hit
      have hV := hE _ _ hit
      split at h
      · rename_i k st seen hg
        cases h
        obtain ⟨mb, since, stepped, sn, h1, h2, h3, hst, h4⟩ := hR.obj _ _ hg
        simp only at h4
        subst h4
        have hv : a.eval it = .pointer (some ⟨(μ r).block, 0, none⟩) := by
          generalize a.eval it = v at hV
          cases hV
          rw [h3.2.2]
        refine OW.value (by simp) (v := .tuple #[.bool false]) (w' := w) ?_ (hK _ _ _ _ _ _ (by simp) (.tuple _ [.bool false] [.bool false] rfl (fun j v a e1 e2 => ?_)) hR (T.refl _ _ _ _))
        · simp [execOp, Instr.next, hv, getObj, Sem.run, h1]
        · cases j with
          | zero => simp at e1 e2; subst e1; subst e2; exact .bool _ _
          | succ j => simp at e1
      · rename_i m since st seen hg
        split at h
        · rename_i es bs clock hgm
          cases hc : (Nat.ble since clock && (seen.isEmpty || (es.isEmpty || bs.any (fun b => Nat.blt b since))))
          · rw [hc] at h; cases h
          rw [hc] at h
          cases h
          simp only [Bool.and_eq_true, Bool.or_eq_true] at hc
          obtain ⟨hsc, hc⟩ := hc
          have hsc := Nat.le_of_ble_eq_true hsc
          obtain ⟨mb, since', stepped, sn, h1, h2, h3, hst0, h4⟩ := hR.obj _ _ hg
          obtain ⟨hmlt, rfl⟩ := h4
          obtain ⟨rfl, hst, hbase⟩ := h3
          obtain ⟨en, g1, g2, g3, g4, g5⟩ := hR.obj _ _ hgm
          have hv : a.eval it = .pointer (some ⟨(μ r).block, 0, none⟩) := by
            generalize a.eval it = v at hV
            cases hV
            rw [hbase]
          obtain ⟨l1, l2⟩ := leftL_spec (seen := seen) g2 g5
          let left := en.filter fun e => !sn.contains e.born
          let old := left.filter (·.born < since')
          let new := left.filter (·.born ≥ since')
          let cand : Array (Option MapEntry) := (if old.isEmpty then #[none] else #[]) ++ (old ++ new).map some
          have hleft : left.toList = en.toList.filter fun e => !seen.contains e.born := by
            simp only [left, Array.toList_filter, ← h2]
            congr 1
            funext e
            simp
          have hguard : (!sn.isEmpty && !en.isEmpty && en.all (fun e => decide (e.born ≥ stepped))) = false := by
            rcases hc with hc | hc | hc
            · have : sn.isEmpty = true := by
                rw [← h2] at hc; simpa using hc
              simp [this]
            · have : en.isEmpty = true := by
                have e1 := g2.1
                have e2 : es = [] := by simpa using hc
                rw [e2] at e1
                simpa using e1
              simp [this]
            · rw [List.any_eq_true] at hc
              obtain ⟨b, hb, hlt⟩ := hc
              rw [Nat.blt_eq] at hlt
              rw [← g5] at hb
              obtain ⟨e, he, rfl⟩ := List.mem_map.1 hb
              have : en.all (fun e => decide (e.born ≥ stepped)) = false := by
                rw [Bool.eq_false_iff]
                intro hall
                rw [← Array.all_toList, List.all_eq_true] at hall
                have := hall e he
                simp at this
                omega
              simp [this]
          have hn : 0 < cand.size := by
            simp only [cand]
            by_cases ho : old.isEmpty = true
            · rw [if_pos ho]; simp; omega
            · rw [if_neg ho]
              have : 0 < old.size := by
                rcases Nat.eq_zero_or_pos old.size with h | h
                · exact absurd (by simpa [Array.isEmpty_iff_size_eq_zero] using h) ho
                · exact h
              simp; omega
          obtain ⟨j, w1, hch, hj, hheap, hos, htape, hout⟩ := run_mapNext (P := P) w cand.size hn
          have hcj : cand[j]? = some cand[j] := by simp
          have hR1 : R ξ Φ μ H w1 := hR.drew hheap
          have hT1 : T Φ μ H w Φ μ H w1 := T.drew hheap hos htape hout
          have hr1 : (getObj (μ r).block).run P w = .ok (.mapIter (some (μ m).block) since' sn stepped) w := by simp [getObj, Sem.run, h1]
          have hr2 : (getObj (μ m).block).run P w = .ok (.map en clock) w := run_getObj_map g1
          have hmem : cand[j] ∈ cand.toList := by simp
          simp only [cand, Array.toList_append, List.mem_append, Array.toList_map] at hmem
          cases hq : cand[j] with
          | none =>
            have hold : old.isEmpty = true := by
              rw [show (((if old.isEmpty then #[none] else #[]) ++ (old ++ new).map some : Array (Option MapEntry)))[j] = none from hq] at hmem
              rcases hmem with hm | hm
              · by_cases ho : old.isEmpty = true
                · exact ho
                · rw [if_neg ho] at hm; simp at hm
              · simp at hm
            have hno : (leftL seen es bs).any (fun q => Nat.blt q.1 since') = false := by
              rw [Bool.eq_false_iff]
              intro ha
              rw [List.any_eq_true] at ha
              obtain ⟨q, hq1, hq2⟩ := ha
              rw [Nat.blt_eq] at hq2
              have : q.1 ∈ (leftL seen es bs).map (·.1) := List.mem_map_of_mem hq1
              rw [l1] at this
              obtain ⟨e, he, heq⟩ := List.mem_map.1 this
              have he' : e ∈ old.toList := by
                simp only [old, Array.toList_filter, hleft, List.mem_filter]
                rw [List.mem_filter] at he
                exact ⟨he, by simp; omega⟩
              rw [Array.isEmpty_iff] at hold
              rw [hold] at he'
              simp at he'
            refine OW.value (by simp) (v := .tuple #[.bool false]) (w' := w1) ?_ (hK _ _ _ _ (.tuple [.bool false]) H ?_ (.tuple _ [.bool false] [.bool false] rfl (fun j v a e1 e2 => ?_)) hR1 hT1)
            · have hnx : (Instr.next (.pointer (some ⟨(μ r).block, 0, none⟩)) false type).run P w = .ok (.tuple #[.bool false]) w1 := by
                unfold Instr.next
                simp only [Sem.run_bind, hr1, Result.andThen_ok, hr2, hguard, Bool.false_eq_true, if_false]
                show ((choose (.mapNext cand.size)).run P w).andThen _ = _
                rw [hch]
                simp only [Result.andThen_ok]
                change Sem.run P (match cand[j]? with | some (some e) => _ | some none => _ | none => _) w1 = _
                rw [hcj, hq]
                rfl
              simp [execOp, hv, hnx]
            · show _ ∈ nextOuts _ _ _ _ _ _ _
              unfold nextOuts
              rw [hno]
              exact List.mem_cons_self
            · cases j with
              | zero => simp at e1 e2; subst e1; subst e2; exact .bool _ _
              | succ j => simp at e1
          | some e =>
            have hel : e ∈ en.toList.filter fun e => !seen.contains e.born := by
              rw [show (((if old.isEmpty then #[none] else #[]) ++ (old ++ new).map some : Array (Option MapEntry)))[j] = some e from hq] at hmem
              rw [← hleft]
              rcases hmem with hm | hm
              · exfalso
                split at hm <;> simp at hm
              · simp only [Array.toList_append, List.mem_map, List.mem_append, Option.some.injEq, exists_eq_right] at hm
                rcases hm with hm | hm
                · simp only [old, Array.toList_filter, List.mem_filter] at hm; exact hm.1
                · simp only [new, Array.toList_filter, List.mem_filter] at hm; exact hm.1
            obtain ⟨k, v, hkv, hk1, hk2⟩ := l2 e hel
            have h1' : w1.heap[(μ r).block]? = some (.mapIter (some (μ m).block) since' sn stepped) := by rw [hheap]; exact h1
            let w2 := setObjW w1 (μ r).block (.mapIter (some (μ m).block) since' (sn.push e.born) clock)
            have hset : (setObj (μ r).block (.mapIter (some (μ m).block) since' (sn.push e.born) clock)).run P w1 = .ok () w2 := by
              simp [setObj, Sem.run, h1', w2, setObjW]
            have hR2 : R ξ Φ μ (H.set r (.miter (some m) since' clock (seen ++ [e.born]))) w2 := hR1.set r _ _ hg (fun b hb => setObj_other hb)
              ⟨_, since', clock, sn.push e.born, setObj_same h1', by simp [h2], ⟨rfl, hsc, hbase⟩, rfl, hmlt, rfl⟩
            have hT2 : T Φ μ H w1 Φ μ (H.set r (.miter (some m) since' clock (seen ++ [e.born]))) w2 := T.set r _ _ hg (fun b hb => setObj_other hb) (by simp [w2, setObjW]) rfl rfl rfl
            refine OW.value (by simp) (v := .tuple #[.bool true, e.key, e.val]) (w' := w2) ?_ (hK _ _ _ _ (.tuple [.bool true, k, v]) (H.set r (.miter (some m) since' clock (seen ++ [e.born]))) ?_ ?_ hR2 (hT1.trans hT2))
            · have hnx : (Instr.next (.pointer (some ⟨(μ r).block, 0, none⟩)) false type).run P w = .ok (.tuple #[.bool true, e.key, e.val]) w2 := by
                unfold Instr.next
                simp only [Sem.run_bind, hr1, Result.andThen_ok, hr2, hguard, Bool.false_eq_true, if_false]
                show ((choose (.mapNext cand.size)).run P w).andThen _ = _
                rw [hch]
                simp only [Result.andThen_ok]
                change Sem.run P (match cand[j]? with | some (some e) => _ | some none => _ | none => _) w1 = _
                rw [hcj, hq]
                simp only [Sem.run_bind, hset, Result.andThen_ok, Sem.run_pure]
              simp [execOp, hv, hnx]
            · show _ ∈ nextOuts _ _ _ _ _ _ _
              have hmm := List.mem_map_of_mem (f := fun q : Nat × AV × AV => (AV.tuple [.bool true, q.2.1, q.2.2], H.set r (.miter (some m) since' clock (seen ++ [q.1])))) hkv
              unfold nextOuts
              cases (leftL seen es bs).any (fun q => Nat.blt q.1 since')
              · exact List.mem_cons_of_mem _ hmm
              · exact hmm
            · have hs : Vs ξ Φ μ (H.set r (.miter (some m) since' clock (seen ++ [e.born]))).next [.bool true, e.key, e.val] [.bool true, k, v] := Vs.cons (.bool _ _) (Vs.cons hk1.up (Vs.cons hk2.up Vs.nil))
              exact .tuple _ _ _ hs.1 hs.2
        · cases h
      · cases h
    · cases h
  · cases h
end
end Go.Ai
end
