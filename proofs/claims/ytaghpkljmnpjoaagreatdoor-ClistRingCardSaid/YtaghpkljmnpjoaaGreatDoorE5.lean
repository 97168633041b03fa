/- THE ABSTRACT INTERPRETER, PART 5: the operations that make or write memory. -/
import Derived.Test.YtaghpkljmnpjoaaGreatDoorE4
set_option linter.unusedVariables false
set_option linter.unusedSimpArgs false
noncomputable section
namespace Go.Ai
variable {ξ : Env}

section
variable {P : Program} {Φ : Nat → Option Obj} {μ : Nat → Pl}

/-- What an operation that makes or writes memory has done. -/
structure Done (ξ : Env) (Φ : Nat → Option Obj) (μ : Nat → Pl) (H : AH) (w : World) (v : Value) (z : AV) (H' : AH) (w' : World) : Prop where
  st : ∃ Φ' μ', V ξ Φ' μ' H'.next v z ∧ R ξ Φ' μ' H' w' ∧ T Φ μ H w Φ' μ' H' w'

theorem setSeg_get {α : Type} : ∀ (xs cs : List α) (off j : Nat), off + xs.length ≤ cs.length → (setSeg cs off xs)[j]? = if off ≤ j ∧ j < off + xs.length then xs[j - off]? else cs[j]?
  | [], cs, off, j, _ => by rw [if_neg (by simp only [List.length_nil]; omega)]; rfl
  | x :: xs, cs, off, j, h => by
    simp only [List.length_cons] at h
    show (setSeg (cs.set off x) (off + 1) xs)[j]? = _
    rw [setSeg_get xs (cs.set off x) (off + 1) j (by simp; omega)]
    simp only [List.length_cons]
    by_cases h1 : off + 1 ≤ j ∧ j < off + 1 + xs.length
    · rw [if_pos h1, if_pos (by omega), show j - off = (j - (off + 1)) + 1 by omega, List.getElem?_cons_succ]
    · rw [if_neg h1]
      by_cases h2 : j = off
      · subst h2
        rw [if_pos (by omega), Nat.sub_self, List.getElem?_cons_zero]
        exact List.getElem?_set_self (by omega)
      · rw [if_neg (by omega), List.getElem?_set_ne (by omega)]

theorem frozen_no {w : World} {b j n : Nat} {c : Array Value} {t : TypeId} {str : Bool} (h : w.heap[b]? = some (.cells c t (fzOf str n))) (hj : j < n) : w.frozen? ⟨b, j, none⟩ = false := by
  simp only [World.frozen?, h, fzOf]
  cases str <;> simp
  omega

theorem storeCells_run : ∀ (vs : List Value) (b o i n : Nat) (c : Array Value) (t : TypeId) (str : Bool) (w : World), w.heap[b]? = some (.cells c t (fzOf str n)) → c.size = n →
    o + i + vs.length ≤ n → (∀ v ∈ vs, v.oneCell' = true) →
    (storeCells ⟨b, o, none⟩ vs i).run P w = .ok () (w.setRow b (setSeg c.toList (o + i) vs).toArray)
  | [], b, o, i, n, c, t, str, w, hb, hn, hl, h1 => by
    simp only [storeCells, Sem.run_pure, setSeg, Array.toArray_toList]
    congr 1
    have hlt : b < w.heap.size := (Array.getElem?_eq_some_iff.1 hb).1
    have hv : w.heap[b] = .cells c t (fzOf str n) := (Array.getElem?_eq_some_iff.1 hb).2
    unfold World.setRow
    cases w with
    | mk heap tape drawn os output =>
      congr 1
      apply Array.ext
      · simp
      · intro k h1 h2
        simp only [Array.getElem_modify]
        split
        · rename_i hk; subst hk; simp at hv; simp [hv]
        · rfl
  | v :: rest, b, o, i, n, c, t, str, w, hb, hn, hl, h1 => by
    simp only [List.length_cons] at hl
    have hi : o + i < c.size := by omega
    have hcell : w.cell? ⟨b, o + i, none⟩ = some c[o + i] := by simp [World.cell?, hb, hi]
    have hst : (store ((⟨b, o, none⟩ : Addr).add i) v).run P w = .ok () (w.setRow b (c.setIfInBounds (o + i) v)) := by
      rw [add_off, run_store P w _ v _ (h1 v (by simp)), hcell]
      simp [frozen_no hb (by omega : o + i < n), setCell_eq_setRow w b (o + i) c t _ v hb]
    have ih := storeCells_run rest b o (i + 1) n (c.setIfInBounds (o + i) v) t str (w.setRow b (c.setIfInBounds (o + i) v)) (setRow_heap w b c _ t _ hb) (by simp [hn]) (by omega) (fun x hx => h1 x (by simp [hx]))
    simp only [storeCells, Sem.run_bind, hst, Result.andThen_ok, ih, setRow_setRow, setSeg, Array.toList_setIfInBounds, Nat.add_assoc]

/-- A new block that nothing names. -/
theorem garbage {H : AH} {w w' : World} (hR : R ξ Φ μ H w) (hsz : w.heap.size ≤ w'.heap.size) (hw : ∀ b, b < w.heap.size → w'.heap[b]? = w.heap[b]?)
    (ho : w'.os = w.os) (ht : w'.tape = w.tape) (hu : w'.output = w.output) : R ξ Φ μ H w' ∧ T Φ μ H w Φ μ H w' := by
  refine ⟨⟨fun i o hi => (hR.obj i o hi).mono (fun _ _ h => h) (Nat.le_refl _) (fun _ _ => rfl) (hw _ (hR.block_lt hi)), hR.lt, hR.inj, fun b ob hb => ?_, hR.dis, hR.glob⟩,
    ⟨fun _ _ h => h, fun _ _ => rfl, Nat.le_refl _, hsz, ho, ht, hu, fun b hb _ => hw b hb, fun i o h => .inl ⟨i, o, h, rfl⟩, fun _ _ h => .inl h⟩⟩
  have h1 := hR.frz b ob hb
  have : b < w.heap.size := by
    rcases Nat.lt_or_ge b w.heap.size with h' | h'
    · exact h'
    · simp [Array.getElem?_eq_none h'] at h1
  rw [hw b this]; exact h1

theorem alloc_old (w : World) (o : Obj) (b : Nat) (h : b < w.heap.size) : (w.alloc o).heap[b]? = w.heap[b]? := by
  show (w.heap.push o)[b]? = _
  rw [Array.getElem?_push, if_neg (Nat.ne_of_lt h)]
theorem alloc_new (w : World) (o : Obj) : (w.alloc o).heap[w.heap.size]? = some o := by
  show (w.heap.push o)[w.heap.size]? = _
  rw [Array.getElem?_push, if_pos rfl]

/-- A new row of cells. -/
theorem newRow_ok {H : AH} {w : World} (hR : R ξ Φ μ H w) (t : TypeId) {vs : List Value} {cs : List AV} (junk : List Value) (h : Vs ξ Φ μ H.next vs cs) :
    R ξ Φ (upd μ H.next ⟨w.heap.size, 0, vs.length + junk.length⟩) (H.push (.cells false cs)) (w.alloc (.cells (vs ++ junk).toArray t)) ∧
    T Φ μ H w Φ (upd μ H.next ⟨w.heap.size, 0, vs.length + junk.length⟩) (H.push (.cells false cs)) (w.alloc (.cells (vs ++ junk).toArray t)) := by
  refine ⟨hR.push _ _ rfl (by simp) (fun b hb => alloc_old w _ b hb) ?_, T.push hR _ _ rfl (by simp) (fun b hb => alloc_old w _ b hb) rfl rfl rfl⟩
  refine ⟨(vs ++ junk).toArray, t, vs, alloc_new w _, by simp, by have := h.1; simp; omega, fun j v hj => ?_, h.mono (fun _ _ h => h) (Nat.le_succ _) (fun i hi => upd_other _ _ _ _ (Nat.ne_of_lt hi))⟩
  have hlt := (List.getElem?_eq_some_iff.1 hj).1
  simp only [List.getElem?_toArray, Nat.zero_add]
  rw [List.getElem?_append_left hlt]; exact hj

theorem ptr_new {H : AH} {w : World} (p : Pl) (hp : p.block = w.heap.size) (hb : p.base = 0) (o : AObj) : V ξ Φ (upd μ H.next p) (H.push o).next (.pointer (some ⟨w.heap.size, 0, none⟩)) (.ptr H.next 0) := by
  have := V.ptr (ξ := ξ) (Φ := Φ) (μ := upd μ H.next p) (H.push o).next H.next 0 (Nat.lt_succ_self _)
  rw [upd_same, hp, hb] at this
  exact this

def allocA (P : Tab) (H : AH) (t : TypeId) : Option (AV × AH) :=
  match zeroA P t with
  | some z => if z.flat then some (.ptr H.next 0, H.push (.cells false z.cells)) else none
  | none => none
theorem boxed_ok {H : AH} {w : World} {t : TypeId} {v : Value} {x : AV} (hR : R ξ Φ μ H w) (hf : x.flat = true) (hv : V ξ Φ μ H.next v x) :
    ∃ r w', (newVar t v).run P w = .ok r w' ∧ Done ξ Φ μ H w (.pointer (some r)) (.ptr H.next 0) (H.push (.cells false x.cells)) w' := by
  have hc := hv.cells hf
  obtain ⟨h1, h2⟩ := newRow_ok hR t [] hc
  refine ⟨⟨w.heap.size, 0, none⟩, w.alloc (.cells v.cells t), rfl, ⟨Φ, upd μ H.next ⟨w.heap.size, 0, v.cells.toList.length + 0⟩, ptr_new _ rfl rfl _, ?_, ?_⟩⟩
  · simpa using h1
  · simpa using h2
theorem allocA_sound {H H' : AH} {w : World} {t : TypeId} {z : AV} (hR : R ξ Φ μ H w) (h : allocA P H t = some (z, H')) :
    ∃ r w', (Instr.alloc t true (.tuple #[])).run P w = .ok r w' ∧ Done ξ Φ μ H w r z H' w' := by
  unfold allocA at h
  split at h
  · rename_i z' hz
    split at h
    · rename_i hf
      cases h
      obtain ⟨v, h1, h2⟩ := zeroA_sound (ξ := ξ) (Φ := Φ) (μ := μ) w hz
      obtain ⟨r, w', h3, h4⟩ := boxed_ok (P := P) (t := t) hR hf (h2 H.next)
      exact ⟨_, w', by simp [Instr.alloc, h1, h3], h4⟩
    · cases h
  · cases h

/-- A slice literal, its parts in order. -/
def inOrder : Nat → List (Nat × AV) → Bool
  | _, [] => true
  | i, (j, _) :: r => (j == i) && inOrder (i + 1) r
def catParts (esz : Nat) : List (Nat × AV) → Option (List AV)
  | [] => some []
  | (_, x) :: r => if x.flat ∧ x.cells.length = esz then
      match catParts esz r with
      | some l => some (x.cells ++ l)
      | none => none
    else none
def zeroInfo (P : Tab) (t : TypeId) : Option Nat :=
  match P.info? t with
  | some i => match i.zero with
    | some z => if z.cells.size = i.size ∧ i.size ≠ 0 then some i.size else none
    | none => none
  | none => none
def buildSliceA (P : Tab) (H : AH) (t : TypeId) (len : Nat) (xs : List (Nat × AV)) : Option (AV × AH) :=
  match elemShp P t with
  | some (e, ag, m) => if len = 0 then (if xs = [] then some (.fslice m [] (some 0), H) else none)
      else if xs.length = len ∧ inOrder 0 xs ∧ len * m ≤ 16777216 ∧ zeroInfo P e = some m then
        match catParts m xs with
        | some cs => some (.slice H.next 0 len m ag (some len), H.push (.cells false cs))
        | none => none
      else none
  | none => none

theorem fill_cat {n : Nat} {m : Nat} : ∀ {xs : List (Nat × AV)} {us : List (Nat × Value)} {cs : List AV} (k : Nat) (arr : Array Value) (pre : List Value), inOrder k xs = true → catParts m xs = some cs →
    Vp ξ Φ μ n us xs → (∃ rest, arr.toList = pre ++ rest ∧ rest.length = xs.length * m) → pre.length = k * m →
    ∃ arr' vs, Instr.fill (fun i => some (i * m, m)) arr us = some arr' ∧ arr'.toList = pre ++ vs ∧ Vs ξ Φ μ n vs cs
  | [], us, cs, k, arr, pre, ho, hc, hu, ⟨rest, hr, hl⟩, hp => by
    have : us = [] := by have := hu.1; simpa using this
    subst this
    simp [catParts] at hc; subst hc
    simp at hl
    subst hl
    exact ⟨arr, [], rfl, by simpa using hr, Vs.nil⟩
  | (i, x) :: xs, us, cs, k, arr, pre, ho, hc, hu, ⟨rest, hr, hl⟩, hp => by
    cases us with
    | nil => have := hu.1; simp at this
    | cons u us =>
      obtain ⟨i', v⟩ := u
      obtain ⟨hi, hV⟩ := hu.2 0 _ _ rfl rfl
      simp only at hi hV
      simp only [inOrder, Bool.and_eq_true, beq_iff_eq] at ho
      obtain ⟨e, ho⟩ := ho
      subst e
      subst hi
      simp only [catParts] at hc
      split at hc
      · rename_i hfm
        obtain ⟨hf, hm⟩ := hfm
        split at hc
        · rename_i l hcl
          cases hc
          have hcs := hV.cells hf
          have hsz : v.cells.size = m := by have := hcs.1; simp at this; omega
          have hvl : v.cells.toList.length = m := by simpa using hsz
          simp only [List.length_cons, Nat.succ_mul] at hl
          have hasz : arr.size = i' * m + (xs.length * m + m) := by
            have : arr.toList.length = arr.size := by simp
            rw [hr] at this; simp at this; omega
          have hfold : (v.cells.zipIdx.foldl (fun cs (c, j) => cs.setIfInBounds (i' * m + j) c) arr).toList = setSeg arr.toList (i' * m) v.cells.toList := by
            have := foldl_zip v.cells.toList 0 (i' * m) arr
            simp only [Nat.add_zero] at this
            rw [← this]
            congr 1
            rw [← Array.foldl_toList, Array.toList_zipIdx]
          have hseg : setSeg arr.toList (i' * m) v.cells.toList = (pre ++ v.cells.toList) ++ rest.drop m := by
            apply List.ext_getElem?
            intro j
            rw [setSeg_get _ _ _ _ (by rw [hvl]; simp only [Array.length_toList, hasz]; omega), hr]
            rw [List.getElem?_append, List.getElem?_append, List.getElem?_append, List.length_append, hp, hvl]
            by_cases h1 : j < i' * m
            · rw [if_neg (by omega), if_pos h1, if_pos (by omega), if_pos h1]
            · by_cases h2 : j < i' * m + m
              · rw [if_pos (by omega), if_pos h2, if_neg h1]
              · rw [if_neg (by omega), if_neg h1, if_neg h2, List.getElem?_drop]
                congr 1; omega
          have hu' : Vp ξ Φ μ n us xs := ⟨by have := hu.1; simpa using this, fun j u x h1 h2 => hu.2 (j + 1) u x (by simpa using h1) (by simpa using h2)⟩
          obtain ⟨arr', vs, h1, h2, h3⟩ := fill_cat (m := m) (i' + 1) (v.cells.zipIdx.foldl (fun cs (c, j) => cs.setIfInBounds (i' * m + j) c) arr) (pre ++ v.cells.toList) ho hcl hu'
            ⟨rest.drop m, by rw [hfold, hseg], by simp; omega⟩ (by simp only [List.length_append]; rw [hp, hvl, Nat.succ_mul])
          refine ⟨arr', v.cells.toList ++ vs, ?_, by rw [h2, List.append_assoc], hcs.append h3⟩
          simp only [Instr.fill]
          rw [if_neg (by rw [hsz]; simp; omega)]
          exact h1
        · cases hc
      · cases hc

theorem zeroInfo_spec {t : TypeId} {m : Nat} (h : zeroInfo P t = some m) : ∃ z : Value, (∀ w, (zeroValue t).run P w = .ok z w) ∧ z.cells.size = m ∧ m ≠ 0 ∧ ∀ w, (sizeOf t).run P w = .ok m w := by
  unfold zeroInfo at h
  split at h
  · rename_i i hi
    have hi : P.info? t = some i := hi
    split at h
    · rename_i z hz
      split at h
      · rename_i hc
        cases h
        exact ⟨z, fun w => by simp [zeroValue, typeInfo, hi, hz], hc.1, hc.2, fun w => by simp [sizeOf, typeInfo, hi]⟩
      · cases h
    · cases h
  · cases h

theorem slice_new {H : AH} {w : World} {len m c size : Nat} {ag : Bool} {cap : Option Nat} (hcap : ∀ k, cap = some k → c = k) (hlc : len ≤ c) (hsz : c * m ≤ size) (o : AObj) :
    V ξ Φ (upd μ H.next ⟨w.heap.size, 0, size⟩) (H.push o).next (.slice (some ⟨w.heap.size, 0, none⟩) len c) (.slice H.next 0 len m ag cap) := by
  have := V.slice (ξ := ξ) (Φ := Φ) (μ := upd μ H.next ⟨w.heap.size, 0, size⟩) (H.push o).next H.next 0 len m ag c cap (Nat.lt_succ_self _) hcap hlc (by rw [upd_same]; simpa using hsz)
  rw [upd_same] at this
  exact this

theorem buildSliceA_sound {H H' : AH} {w : World} {t : TypeId} {len : Nat} {xs : List (Nat × AV)} {us : Array (Nat × Value)} {z : AV} (hR : R ξ Φ μ H w) (h : buildSliceA P H t len xs = some (z, H'))
    (hu : Vp ξ Φ μ H.next us.toList xs) : ∃ r w', (Instr.buildSlice t len us).run P w = .ok r w' ∧ Done ξ Φ μ H w r z H' w' := by
  unfold buildSliceA at h
  split at h
  · rename_i e ag m he
    obtain ⟨hun, hs⟩ := elemShp_spec he
    split at h
    · rename_i hl
      subst hl
      split at h
      · rename_i hx
        cases h
        subst hx
        have hus : us = #[] := by
          have := hu.1
          apply Array.ext'
          simpa using this
        subst hus
        obtain ⟨h1, h2⟩ := garbage (w' := w.alloc (.cells #[] e)) hR (by simp) (fun b hb => alloc_old w _ b hb) rfl rfl rfl
        refine ⟨.slice (some ⟨w.heap.size, 0, none⟩) 0 0, w.alloc (.cells #[] e), ?_, ⟨Φ, μ, .fnil _ _ _ _ _ (fun k hk => by simpa using hk), h1, h2⟩⟩
        have e1 : (Array.range (0 * m)).map (fun i => (#[] : Array Value)[i % (#[] : Array Value).size]!) = #[] := by simp
        simp [Instr.buildSlice, run_underlying hun, shp_size hs, Instr.fill, newRow, Array.range_zero']
      · cases h
    · rename_i hl
      split at h
      · rename_i hc
        obtain ⟨hlen, hio, hbig, hzi⟩ := hc
        obtain ⟨zv, hz1, hz2, hm0, hz3⟩ := zeroInfo_spec hzi
        split at h
        · rename_i cs hcat
          cases h
          have harr : ((Array.range (len * m)).map (fun i => zv.cells[i % zv.cells.size]!)).toList.length = xs.length * m := by simp [hlen]
          obtain ⟨arr', vs, h1, h2, h3⟩ := fill_cat (m := m) 0 ((Array.range (len * m)).map (fun i => zv.cells[i % zv.cells.size]!)) [] hio hcat hu ⟨_, rfl, harr⟩ (by simp)
          simp only [List.nil_append] at h2
          obtain ⟨h4, h5⟩ := newRow_ok hR e [] h3
          have hvl : vs.length = len * m := by
            have hf : ∀ {us : List (Nat × Value)} {a b : Array Value}, Instr.fill (fun i => some (i * m, m)) a us = some b → b.size = a.size := by
              intro us
              induction us with
              | nil => intro a b hh; simp [Instr.fill] at hh; rw [hh]
              | cons p us ih =>
                intro a b hh
                obtain ⟨i, v⟩ := p
                simp only [Instr.fill] at hh
                split at hh
                · cases hh
                · rw [ih hh]
                  have := foldl_zip v.cells.toList 0 (i * m) a
                  have e2 : (v.cells.zipIdx.foldl (fun cs (c, j) => cs.setIfInBounds (i * m + j) c) a).toList = setSeg a.toList (i * m) v.cells.toList := by
                    simp only [Nat.add_zero] at this
                    rw [← this]
                    congr 1
                    rw [← Array.foldl_toList, Array.toList_zipIdx]
                  have e3 := congrArg List.length e2
                  rw [setSeg_length] at e3
                  simpa using e3
            have := hf h1
            rw [← h2]; simp at this ⊢; exact this
          refine ⟨.slice (some ⟨w.heap.size, 0, none⟩) len len, w.alloc (.cells arr' e), ?_, ⟨Φ, upd μ H.next ⟨w.heap.size, 0, vs.length + 0⟩, slice_new (size := vs.length + 0) (fun k hk => by simpa using hk) (Nat.le_refl _) (by omega) _, ?_, ?_⟩⟩
          · have hne : ¬ len * m = 0 := Nat.mul_ne_zero hl hm0
            have hb2 : ¬ len * m > 2 ^ 24 := Nat.not_lt.2 hbig
            simp only [Instr.buildSlice, run_underlying hun, Sem.run_bind, Result.andThen_ok, shp_size hs, if_neg hb2, if_neg hne, hz1, Sem.run_pure, h1]
            rfl
          · have : arr' = (vs ++ []).toArray := by apply Array.ext'; simp [h2]
            rw [this]; exact h4
          · have : arr' = (vs ++ []).toArray := by apply Array.ext'; simp [h2]
            rw [this]; exact h5
        · cases h
      · cases h
  · cases h

/-- A store. -/
def storeA (P : Tab) (H : AH) (t : TypeId) (a x : AV) : Option AH :=
  match a with
  | .ptr id off => match H.get id, shp P t with
    | some (.cells str cs), some (_, m) => if x.flat ∧ x.cells.length = m ∧ off + m ≤ cs.length then some (H.set id (.cells str (setSeg cs off x.cells))) else none
    | _, _ => none
  | _ => none
theorem setRow_len (w : World) (b : Nat) (cs : Array Value) : (w.setRow b cs).heap.size = w.heap.size := setRow_size w b cs

/-- The cells of an object from 'off' on are written. -/
theorem write_ok {H : AH} {w : World} {id off : Nat} {str : Bool} {cs bs : List AV} {us : List Value} (hR : R ξ Φ μ H w) (hg : H.get id = some (.cells str cs)) (hu : Vs ξ Φ μ H.next us bs)
    (hone : ∀ v ∈ us, v.oneCell' = true) (hle : off + bs.length ≤ cs.length) :
    ∃ w', (storeCells ⟨(μ id).block, (μ id).base + off, none⟩ us).run P w = .ok () w' ∧ R ξ Φ μ (H.set id (.cells str (setSeg cs off bs))) w' ∧ T Φ μ H w Φ μ (H.set id (.cells str (setSeg cs off bs))) w' := by
  obtain ⟨c, t, vs, h1, h2, h3, h4, h5⟩ := hR.obj _ _ hg
  have hul := hu.1
  have hvl := h5.1
  have hlec : (μ id).base + off + 0 + us.length ≤ (μ id).size := by omega
  refine ⟨_, storeCells_run us _ _ 0 (μ id).size c t str w h1 h2 hlec hone, ?_, ?_⟩
  · refine hR.set id _ _ hg (fun b hb => setRow_other w _ b _ hb) ?_
    refine ⟨_, t, setSeg vs off us, setRow_heap w _ c _ t _ h1, by simp [setSeg_length, h2], by rw [setSeg_length]; exact h3, fun j v hj => ?_, h5.setSeg hu off⟩
    rw [setSeg_get _ _ _ _ (by omega)] at hj
    simp only [List.getElem?_toArray]
    rw [setSeg_get _ _ _ _ (by simp [h2]; omega)]
    split at hj
    · rw [if_pos (by omega)]
      rw [← hj]; congr 1; omega
    · rw [if_neg (by omega)]
      have := h4 j v hj
      simpa using this
  · exact T.set id _ _ hg (fun b hb => setRow_other w _ b _ hb) (by simp) rfl rfl rfl

theorem storeA_sound {H H' : AH} {w : World} {t : TypeId} {a x : AV} {va vx : Value} (hR : R ξ Φ μ H w) (h : storeA P H t a x = some H') (ha : V ξ Φ μ H.next va a) (hx : V ξ Φ μ H.next vx x) :
    ∃ w', (Instr.storeAt t va vx).run P w = .ok () w' ∧ R ξ Φ μ H' w' ∧ T Φ μ H w Φ μ H' w' := by
  unfold storeA at h
  cases ha <;> simp only at h <;> (try (cases h; done))
  rename_i id off hid
  split at h
  · rename_i str cs b m hg hs
    split at h
    · rename_i hc
      obtain ⟨hf, hl, hle⟩ := hc
      cases h
      have hcs := hx.cells hf
      obtain ⟨w', h1, h2, h3⟩ := write_ok (P := P) (off := off) hR hg hcs (hx.cells_one hf) (by omega)
      refine ⟨w', ?_, h2, h3⟩
      have hsz : vx.cells.size = m := by have := hcs.1; simp at this; omega
      simp [Instr.storeAt, Instr.sureAddr, storeVar, shp_size hs, hsz, h1]
    · cases h
  · cases h
end
end Go.Ai
end
