/- THE ABSTRACT INTERPRETER, PART 8: copy, make; maps that are written; the operation that writes, whole. -/
import Derived.Test.YtaghpkljmnpjoaaGreatDoorE7
set_option linter.unusedVariables false
set_option linter.unusedSimpArgs false
noncomputable section
namespace Go.Ai
variable {ξ : Env}

section
variable {P : Program} {Φ : Nat → Option Obj} {μ : Nat → Pl}

/-- copy -/
def copyA (P : Tab) (H : AH) (t t2 : TypeId) (d x : AV) : Option (AV × AH) :=
  match elemShp P t with
  | some (_, _, m) => match srcA P H t2 m x with
    | some (n, new) => if new.all AV.one then
        match d with
        | .slice id off len esz _ _ => match H.get id with
          | some (.cells str cs) => if esz = m ∧ off + len * m ≤ cs.length then
              some (.int .i64 (min n len : Nat), H.set id (.cells str (setSeg cs off (new.take (min n len * m)))))
            else none
          | _ => none
        | .fslice _ [] _ => some (.int .i64 0, H)
        | _ => none
      else none
    | none => none
  | none => none
theorem copyA_sound {H H' : AH} {w : World} {t t2 ty : TypeId} {d x z : AV} {vd vx : Value} (hR : R ξ Φ μ H w) (h : copyA P H t t2 d x = some (z, H')) (hd : V ξ Φ μ H.next vd d) (hx : V ξ Φ μ H.next vx x) :
    ∃ r w', (Builtin.copy_ #[t, t2] ty #[vd, vx]).run P w = .ok r w' ∧ Done ξ Φ μ H w r z H' w' := by
  unfold copyA at h
  split at h
  · rename_i e ag m he
    obtain ⟨hu, hs⟩ := elemShp_spec he
    split at h
    · rename_i n new hsrc
      split at h
      · rename_i hnew
        obtain ⟨us, h1, h2, h3, h4, h5, h6⟩ := srcA_sound (P := P) hR hsrc hnew hx
        split at h
        · rename_i id off len esz ag' cap
          split at h
          · rename_i str cs hg
            split at h
            · rename_i hc
              obtain ⟨rfl, hle⟩ := hc
              cases h
              cases hd with
              | slice _ _ _ _ _ _ c _ hid hcap hlc hsz =>
                have hmin : min n len * esz ≤ len * esz := Nat.mul_le_mul_right _ (Nat.min_le_right _ _)
                have hf := h6 (min n len) (Nat.min_le_left _ _) w rfl
                have hnl : (new.take (min n len * esz)).length ≤ len * esz := by simp; omega
                obtain ⟨w', k1, k2, k3⟩ := write_ok (P := P) (off := off) hR hg (h3.take (min n len * esz)) (fun v hv => h4 v (List.mem_of_mem_take hv)) (by omega)
                refine ⟨.int .i64 (min n len : Nat), w', ?_, ⟨Φ, μ, .int _ _ _, k2, k3⟩⟩
                have hmn : Nat.min n len = min n len := rfl
                simp [Builtin.copy_, run_underlying hu, h1, shp_size hs, hmn, hf, k1, goInt]
            · cases h
          · cases h
        · rename_i esz cap
          cases h
          have hnil : ∃ a c, vd = .slice a 0 c := by
            cases hd with
            | fnil _ _ a c _ _ => exact ⟨a, c, rfl⟩
            | fslice _ b o c _ _ cs' t' fz ws els hcap hlc hb hl hsz hc hv' => exact ⟨_, _, rfl⟩
          obtain ⟨a, c, rfl⟩ := hnil
          have hf := h6 0 (Nat.zero_le _) w rfl
          simp only [Nat.zero_mul, List.take_zero] at hf
          refine ⟨.int .i64 0, w, ?_, ⟨Φ, μ, .int _ _ _, hR, T.refl _ _ _ _⟩⟩
          cases a <;> simp [Builtin.copy_, run_underlying hu, h1, shp_size hs, hf, goInt, storeCells]
        · cases h
      · cases h
    · cases h
  · cases h

/-- make([]T, l, c); the capacity is forgotten. -/
def makeA (P : Tab) (H : AH) (t : TypeId) (l c : AV) : Option (AV × AH) :=
  match elemInfo P t, l, c with
  | some (e, ag, m, bs), .int _ l, .int _ c => match zeroA P e with
    | some z => if 0 ≤ l ∧ l ≤ c ∧ c ≤ 4611686018427387904 ∧ c * bs ≤ 281474976710656 ∧ z.flat ∧ z.cells.length = m then
        some (.slice H.next 0 l.toNat m ag none, H.push (.cells false (List.replicate l.toNat z.cells).flatten))
      else none
    | none => none
  | _, _, _ => none

theorem wrap_i64 {n : Int} (h0 : 0 ≤ n) (h1 : n ≤ 4611686018427387904) : IntKind.i64.wrap n = n := by
  unfold IntKind.wrap
  simp [IntKind.bits, IntKind.signed]
  split <;> omega
theorem range_zeros (z : Array Value) (m : Nat) (hm : z.size = m) (hm0 : m ≠ 0) : ∀ k : Nat, ((Array.range (k * m)).map (fun i => z[i % z.size]!)).toList = (List.replicate k z.toList).flatten
  | 0 => by simp
  | k + 1 => by
    have ih := range_zeros z m hm hm0 k
    have hl : ∀ j : Nat, ((Array.range (j * m)).map (fun i => z[i % z.size]!)).toList = (List.range (j * m)).map fun i => z[i % z.size]! := fun j => by
      rw [Array.toList_map, Array.toList_range]
    rw [hl] at ih
    rw [hl, List.replicate_succ', List.flatten_append, ← ih]
    rw [Nat.succ_mul, List.range_add, List.map_append, List.map_map]
    congr 1
    simp only [List.flatten_cons, List.flatten_nil, List.append_nil]
    apply List.ext_getElem?
    intro j
    rw [List.getElem?_map]
    by_cases hj : j < m
    · rw [List.getElem?_range hj]
      simp only [Option.map_some, Function.comp]
      rw [hm, Nat.mul_comm k m, Nat.mul_add_mod, Nat.mod_eq_of_lt hj]
      have : j < z.size := by omega
      rw [getElem!_pos z j this]
      simp [this]
    · rw [List.getElem?_eq_none (by simp; omega), List.getElem?_eq_none (by simp; omega)]
      rfl

theorem makeA_sound {H H' : AH} {w : World} {t : TypeId} {l c z : AV} {vl vc : Value} (hR : R ξ Φ μ H w) (h : makeA P H t l c = some (z, H')) (hl : V ξ Φ μ H.next vl l) (hc : V ξ Φ μ H.next vc c) :
    ∃ r w', (Instr.makeSlice t vl vc).run P w = .ok r w' ∧ Done ξ Φ μ H w r z H' w' := by
  unfold makeA at h
  split at h
  · rename_i e ag m bs k l k' c hei
    obtain ⟨hu, hsh, hm0, hb0, ⟨zv, hz1, hz2⟩, i, hi, hib⟩ := elemInfo_spec hei
    split at h
    · rename_i za hza
      split at h
      · rename_i hcond
        obtain ⟨h0, hlc, hcb, hcbs, hzf, hzl⟩ := hcond
        cases h
        cases hl; cases hc
        obtain ⟨zv', hz1', hz2'⟩ := zeroA_sound (ξ := ξ) (Φ := Φ) (μ := μ) w hza
        have hzz : zv' = zv := by have := hz1 w; rw [hz1'] at this; cases this; rfl
        subst hzz
        have hV0 := (hz2' H.next).cells hzf
        have wl := wrap_i64 h0 (by omega)
        have wc := wrap_i64 (by omega : 0 ≤ c) hcb
        have hti : (typeInfo e).run P w = .ok i w := by simp [typeInfo, hi]
        have hlarge : ∀ n : Int, 0 ≤ n → n ≤ c → ¬ (n < 0 ∨ (i.bytes : Int) * n > 2 ^ 48) := by
          intro n hn hnc
          rw [hib]
          have : (bs : Int) * n ≤ bs * c := Int.mul_le_mul_of_nonneg_left hnc (by omega)
          rw [Int.mul_comm (bs : Int) c] at this
          have e48 : (2 : Int) ^ 48 = 281474976710656 := by decide
          omega
        have hrep : ∀ j : Nat, Vs ξ Φ μ H.next (List.replicate j zv'.cells.toList).flatten (List.replicate j za.cells).flatten := by
          intro j
          induction j with
          | zero => exact Vs.nil
          | succ j ih => simp only [List.replicate_succ, List.flatten_cons]; exact hV0.append ih
        have hsplit : (List.replicate c.toNat zv'.cells.toList).flatten = (List.replicate l.toNat zv'.cells.toList).flatten ++ (List.replicate (c.toNat - l.toNat) zv'.cells.toList).flatten := by
          rw [← List.flatten_append, List.replicate_append_replicate]
          congr 2; omega
        obtain ⟨k1, k2⟩ := newRow_ok hR e (List.replicate (c.toNat - l.toNat) zv'.cells.toList).flatten (hrep l.toNat)
        rw [← hsplit] at k1 k2
        have hrow : (Array.range (c.toNat * m)).map (fun i => zv'.cells[i % zv'.cells.size]!) = (List.replicate c.toNat zv'.cells.toList).flatten.toArray := by
          apply Array.ext'
          rw [range_zeros zv'.cells m hz2 hm0]
        have hlen : ∀ j : Nat, (List.replicate j zv'.cells.toList).flatten.length = j * m := by
          intro j
          simp [List.length_flatten, hz2]
        refine ⟨.slice (some ⟨w.heap.size, 0, none⟩) l.toNat c.toNat, w.alloc (.cells (List.replicate c.toNat zv'.cells.toList).flatten.toArray e), ?_, ⟨Φ, _, ?_, k1, k2⟩⟩
        · have g1 := hlarge c (by omega) (Int.le_refl _)
          have g2 := hlarge l h0 hlc
          have g3 : ¬ l < 0 := by omega
          have g4 : ¬ l > c := by omega
          have hne : ∀ (f : Nat → Value), (if c.toNat * m = 0 then #[] else zv'.cells) = zv'.cells ∨ c.toNat * m = 0 := by
            intro f; split <;> simp_all
          simp only [Instr.makeSlice, run_underlying hu, Sem.run_bind, Result.andThen_ok, asInt, asIntOf, Sem.run_pure, hti, wl, wc]
          have gc : (decide (c < 0) || decide ((i.bytes : Int) * c > 2 ^ 48)) = false := by
            simp only [Bool.or_eq_false_iff, decide_eq_false_iff_not]; omega
          simp only [gc, Bool.false_or]
          rw [if_neg (by simp; omega)]
          simp only [Sem.run_bind, run_askRoom, Result.andThen_ok, shp_size hsh, Sem.run_ite, Sem.run_pure, hz1]
          by_cases hc0 : c.toNat * m = 0
          · have hcz : c.toNat = 0 := by
              rcases Nat.mul_eq_zero.1 hc0 with h | h
              · exact h
              · exact absurd h hm0
            simp [hcz, newRow, Array.range_zero']
          · rw [if_neg hc0]
            simp only [hrow]
            rfl
        · refine slice_new (fun k hk => by cases hk) (by omega) ?_ _
          rw [hlen, hlen, ← Nat.add_mul]
          exact Nat.mul_le_mul_right _ (by omega)
      · cases h
    · cases h
  · cases h

/-- Values that name no object. -/
def AV.free : AV → Bool
  | .bool _ | .int _ _ | .str _ | .nilptr | .fptr _ | .fslice _ _ _ | .nilslice | .eslice _ | .nilmap | .nilfunc | .niliface | .sym _ | .gptr _ _ => true
  | _ => false
def AV.frees : AV → Bool
  | .agg cs => cs.all AV.free
  | v => v.free
theorem V.free {n : Nat} {v : Value} {a : AV} (h : V ξ Φ μ n v a) (ha : a.free = true) : V ξ Φ μ 0 v a := by
  cases h with
  | bool => exact .bool _ _
  | int => exact .int _ _ _
  | str => exact .str _ _
  | nilptr => exact .nilptr _
  | nilslice => exact .nilslice _
  | eslice n a c cap hcap => exact .eslice _ _ _ _ hcap
  | nilmap => exact .nilmap _
  | nilfunc => exact .nilfunc _
  | niliface => exact .niliface _
  | sym _ s _ h => exact .sym _ _ _ h
  | gptr => exact .gptr _ _ _
  | fptr _ b o cs t fz vs cells hb hl hc hv => exact .fptr _ b o cs t fz vs cells hb hl hc hv
  | fnil _ esz a c cap hcap => exact .fnil _ _ _ _ _ hcap
  | fslice _ b o c esz cap cs t fz ws els hcap hlc hb hl hsz hc hv => exact .fslice _ b o c esz cap cs t fz ws els hcap hlc hb hl hsz hc hv
  | _ => cases ha
theorem V.frees {n : Nat} {v : Value} {a : AV} (h : V ξ Φ μ n v a) (ha : a.frees = true) : V ξ Φ μ 0 v a := by
  cases a with
  | agg cs =>
    cases h with
    | agg _ vs _ hl hv =>
      refine .agg _ _ _ hl (fun j v a h1 h2 => (hv j v a h1 h2).free ?_)
      simp only [AV.frees, List.all_eq_true] at ha
      exact ha _ (List.mem_of_getElem? h2)
  | _ => exact h.free ha

def updL (k v : AV) : List (AV × AV) → Option (List (AV × AV))
  | [] => some [(k, v)]
  | (k', x) :: r => match keyEq k k' with
    | some true => some ((k, v) :: r)
    | some false => match updL k v r with
      | some l => some ((k', x) :: l)
      | none => none
    | none => none
def mapPut (P : Tab) (H : AH) (t : TypeId) (m k v : AV) : Option AH :=
  match mapTy P t, m with
  | some (kt, _), .map id => match keyKind P kt k, H.get id with
    | some _, some (.map es bs c) => if v.frees then
        match updL k v es with
        | some es' => some (H.set id (bif Nat.beq es'.length es.length then .map es' bs c else .map es' (bs ++ [c]) (c + 1)))
        | none => none
      else none
    | _, _ => none
  | _, _ => none

theorem key_free {kt : TypeId} {k : AV} {d : TypeDesc} (h : keyKind P kt k = some d) : k.free = true := by
  unfold keyKind at h
  split at h <;> first | rfl | cases h
theorem updL_now {d : TypeDesc} {kt : TypeId} {n : Nat} {k x : AV} {v u : Value} (hd : keyKind P kt k = some d) (hv : V ξ Φ μ n v k) (hu : V ξ Φ μ 0 u x) :
    ∀ {es es' : List (AV × AV)} {en : List MapEntry} (i : Nat), updL k x es = some es' → Vm ξ Φ μ en es →
      ∃ q, Instr.findNow d v en i = some q ∧ match q with
        | none => Vm ξ Φ μ (en ++ [{ key := v, val := u, born := 0 }]) es'
        | some (j, _) => i ≤ j ∧ (∃ e, en[j - i]? = some e ∧ (∀ kk, (Instr.keyThatStays e.key v).run P kk = .ok v kk)) ∧ Vm ξ Φ μ (en.modify (j - i) fun e => { e with key := v, val := u }) es'
  | [], es', en, i, h, hm => by
    have : en = [] := by have := hm.1; simpa using this
    subst this
    simp only [updL, Option.some.injEq] at h; subst h
    refine ⟨none, rfl, by simp, fun j e p h1 h2 => ?_⟩
    cases j with
    | zero => simp at h1 h2; subst h1; subst h2; exact ⟨hv.free (key_free hd), hu⟩
    | succ j => simp at h1
  | (k', y) :: es, es', en, i, h, hm => by
    cases en with
    | nil => have := hm.1; simp at this
    | cons e en =>
      obtain ⟨ek, ev, eb⟩ := e
      have h0 := hm.2 0 _ (k', y) rfl rfl
      simp only at h0
      have hm' : Vm ξ Φ μ en es := ⟨by have := hm.1; simpa using this, fun j e p h1 h2 => hm.2 (j + 1) e p (by simpa using h1) (by simpa using h2)⟩
      simp only [updL] at h
      split at h
      · rename_i he
        cases h
        have hnow := keyEq_now hd he hv h0.1
        refine ⟨some (i, ev), by simp [Instr.findNow, hnow], Nat.le_refl _, ⟨⟨ek, ev, eb⟩, by simp, fun kk => ?_⟩, ?_⟩
        · have hsb : Instr.sameBits 10000 ek v = true := by
            have hk0 := h0.1
            unfold keyKind at hd
            split at hd
            · cases hv
              cases hk0 <;> simp only [keyEq] at he <;> first
                | (cases he; done)
                | (simp at he; subst he; simp [Instr.sameBits, ba_beq])
            · cases hv
              cases hk0 <;> simp only [keyEq] at he <;> first
                | (cases he; done)
                | (split at he <;> simp at he
                   rename_i hh1
                   subst hh1; subst he
                   simp [Instr.sameBits])
            · cases hv
              cases hk0 <;> simp only [keyEq] at he <;> first
                | (cases he; done)
                | (simp at he; subst he; simp [Instr.sameBits])
            · cases hd
          simp [Instr.keyThatStays, hsb]
        · refine ⟨by simp [hm'.1], fun j e' p h1 h2 => ?_⟩
          cases j with
          | zero =>
            simp at h1 h2; subst h1; subst h2
            exact ⟨hv.free (key_free hd), hu⟩
          | succ j => simp at h1 h2; exact hm'.2 j e' p h1 h2
      · rename_i he
        split at h
        · rename_i l hl
          cases h
          have hnow := keyEq_now hd he hv h0.1
          obtain ⟨q, h1, h2⟩ := updL_now hd hv hu (i + 1) hl hm'
          refine ⟨q, by simp [Instr.findNow, hnow, h1], ?_⟩
          cases q with
          | none =>
            refine ⟨by have := h2.1; simp at this ⊢; exact this, fun j e' p e1 e2 => ?_⟩
            cases j with
            | zero => simp at e1 e2; subst e1; subst e2; exact h0
            | succ j => exact h2.2 j e' p (by simpa using e1) (by simpa using e2)
          | some jq =>
            obtain ⟨j, vq⟩ := jq
            obtain ⟨hle, ⟨e0, g1, g2⟩, g3⟩ := h2
            refine ⟨by omega, ⟨e0, ?_, g2⟩, ?_⟩
            · rw [show j - i = (j - (i + 1)) + 1 by omega]; simpa using g1
            · rw [show j - i = (j - (i + 1)) + 1 by omega]
              refine ⟨by have := g3.1; simp at this ⊢; exact this, fun jj e' p e1 e2 => ?_⟩
              cases jj with
              | zero => simp at e1 e2; subst e1; subst e2; exact h0
              | succ jj => exact g3.2 jj e' p (by simpa using e1) (by simpa using e2)
        · cases h
      · cases h

def setObjW (w : World) (b : Nat) (o : Obj) : World := { w with heap := w.heap.setIfInBounds b o }
theorem setObj_run {w : World} {b : Nat} {en : Array MapEntry} {clock : Nat} (o : Obj) (h : w.heap[b]? = some (.map en clock)) : (setObj b o).run P w = .ok () (setObjW w b o) := by
  simp [setObj, Sem.run, h, setObjW]
theorem setObj_same {w : World} {b : Nat} {o o' : Obj} (h : w.heap[b]? = some o') : (setObjW w b o).heap[b]? = some o := by
  have := (Array.getElem?_eq_some_iff.1 h).1
  simp [setObjW, this]
theorem setObj_other {w : World} {b k : Nat} {o : Obj} (h : k ≠ b) : (setObjW w b o).heap[k]? = w.heap[k]? := by
  simp [setObjW, Array.getElem?_setIfInBounds_ne (Ne.symm h)]

theorem mapSet_ok {H : AH} {w : World} {id : Nat} {es es' : List (AV × AV)} {bs bs' : List Nat} {en en' : Array MapEntry} {c c' : Nat} (hR : R ξ Φ μ H w) (hg : H.get id = some (.map es bs c)) (h1 : w.heap[(μ id).block]? = some (.map en c))
    (h2 : Vm ξ Φ μ en'.toList es') (h3 : ∀ e ∈ en'.toList, e.born < c') (h4 : en'.toList.Pairwise (fun x y => x.born < y.born)) (h5 : en'.toList.map (·.born) = bs') :
    R ξ Φ μ (H.set id (.map es' bs' c')) (setObjW w (μ id).block (.map en' c')) ∧ T Φ μ H w Φ μ (H.set id (.map es' bs' c')) (setObjW w (μ id).block (.map en' c')) :=
  ⟨hR.set id _ _ hg (fun b hb => setObj_other hb) ⟨en', setObj_same h1, h2, h3, h4, h5⟩,
    T.set id _ _ hg (fun b hb => setObj_other hb) (by simp [setObjW]) rfl rfl rfl⟩

theorem mapPut_sound {H H' : AH} {w : World} {t : TypeId} {m k v : AV} {vm vk vv : Value} (hR : R ξ Φ μ H w) (h : mapPut P H t m k v = some H') (hm : V ξ Φ μ H.next vm m) (hk : V ξ Φ μ H.next vk k) (hv : V ξ Φ μ H.next vv v) :
    ∃ w', (Instr.mapUpdate t vm vk vv).run P w = .ok () w' ∧ R ξ Φ μ H' w' ∧ T Φ μ H w Φ μ H' w' := by
  unfold mapPut at h
  split at h
  · rename_i kt et id hmt
    have hu := mapTy_spec hmt
    split at h
    · rename_i d es bs clock hd hg
      split at h
      · rename_i hfr
        split at h
        · rename_i es' hup
          cases h
          cases hm with
          | map _ _ hid =>
            have hku := keyKind_under hd
            obtain ⟨en, h1, h2, h3, h4, h5⟩ := hR.obj _ _ hg
            obtain ⟨q, g1, g2⟩ := updL_now (P := P) hd hk (hv.frees hfr) 0 hup h2
            cases q with
            | none =>
              simp only at g2
              have hlen : Nat.beq es'.length es.length = false := by
                have e1 := g2.1
                have e2 := h2.1
                simp at e1 e2
                cases hb : Nat.beq es'.length es.length
                · rfl
                · have := Nat.eq_of_beq_eq_true hb; omega
              rw [hlen]
              simp only [cond_false]
              obtain ⟨k1, k2⟩ := mapSet_ok (en' := en.push { key := vk, val := vv, born := clock }) (c' := clock + 1) (es' := es') (bs' := bs ++ [clock]) hR hg h1 (by
                  refine ⟨by have := g2.1; simp at this ⊢; exact this, fun j e p e1 e2 => ?_⟩
                  simp only [Array.toList_push] at e1
                  by_cases hj : j < en.toList.length
                  · rw [List.getElem?_append_left hj] at e1
                    exact g2.2 j e p (by rw [List.getElem?_append_left hj]; exact e1) e2
                  · have hj' : j = en.toList.length := by
                      have := (List.getElem?_eq_some_iff.1 e1).1; simp at this hj ⊢; omega
                    subst hj'
                    simp at e1; subst e1
                    have := g2.2 en.toList.length { key := vk, val := vv, born := 0 } p (by simp) e2
                    exact this)
                (by intro e he; simp at he; rcases he with he | rfl
                    · have := h3 e (by simpa using he); omega
                    · simp)
                (by
                  simp only [Array.toList_push]
                  rw [List.pairwise_append]
                  exact ⟨h4, by simp, fun a ha b hb => by simp at hb; subst hb; exact h3 a ha⟩)
                (by rw [← h5]; simp)
              refine ⟨_, ?_, k1, k2⟩
              simp [Instr.mapUpdate, run_underlying hu, run_getObj_map h1, checkKey_any hd hk, Instr.findKey, run_underlying hku, g1, setObj_run _ h1]
            | some jq =>
              obtain ⟨j, vq⟩ := jq
              obtain ⟨_, ⟨e0, e1, e2⟩, g3⟩ := g2
              simp only [Nat.sub_zero] at e1 g3
              have hmod : (en.modify j fun e => { e with key := vk, val := vv }).toList = en.toList.modify j fun e => { e with key := vk, val := vv } := by
                apply List.ext_getElem?
                intro i
                simp [List.getElem?_modify]
              have hborn : (en.modify j fun e => { e with key := vk, val := vv }).toList.map (·.born) = en.toList.map (·.born) := by
                rw [hmod]
                apply List.ext_getElem?
                intro i
                simp only [List.getElem?_map, List.getElem?_modify]
                split
                · cases en.toList[i]? <;> simp
                · cases en.toList[i]? <;> simp
              have hlen : Nat.beq es'.length es.length = true := by
                have e1 := g3.1
                have e2 := h2.1
                simp at e1 e2
                rw [Nat.beq_eq]; omega
              rw [hlen]
              simp only [cond_true]
              obtain ⟨k1, k2⟩ := mapSet_ok (en' := en.modify j fun e => { e with key := vk, val := vv }) (c' := clock) (es' := es') (bs' := bs) hR hg h1 (by rw [hmod]; exact g3)
                (by
                  intro e he
                  have : e.born ∈ (en.modify j fun e => { e with key := vk, val := vv }).toList.map (·.born) := List.mem_map_of_mem he
                  rw [hborn] at this
                  obtain ⟨e', he', hb⟩ := List.mem_map.1 this
                  rw [← hb]; exact h3 e' he')
                (by
                  have h4' : (en.toList.map (·.born)).Pairwise (· < ·) := by rw [List.pairwise_map]; exact h4
                  rw [← hborn, List.pairwise_map] at h4'
                  exact h4')
                (hborn.trans h5)
              refine ⟨_, ?_, k1, k2⟩
              have e1' : en[j]? = some e0 := by simpa using e1
              simp [Instr.mapUpdate, run_underlying hu, run_getObj_map h1, checkKey_any hd hk, Instr.findKey, run_underlying hku, g1, e1', e2, setObj_run _ h1]
        · cases h
      · cases h
    · cases h
  · cases h
end
end Go.Ai
end
