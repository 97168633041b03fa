/- THE ABSTRACT INTERPRETER, PART 2: the operations that only read, one by one. -/
import Derived.Test.YtaghpkljmnpjoaaGreatDoorE1
import Derived.Laws.BytesString
set_option linter.unusedVariables false
set_option linter.unusedSimpArgs false
noncomputable section
namespace Go.Ai
variable {ξ : Env}

section
variable {P : Program} {Φ : Nat → Option Obj} {μ : Nat → Pl}

/-- A part of a struct's or an array's cells. -/
theorem partA_sound {n : Nat} {t : TypeId} {cells : List AV} {x : AV} {vs : List Value} {off : Nat} (w : World) (h : loadA P t (cells.drop off) = some x) (hv : Vs ξ Φ μ n vs cells) :
    ∃ v, (part t vs.toArray off).run P w = .ok v w ∧ V ξ Φ μ n v x := by
  unfold loadA at h
  split at h
  · rename_i m hs
    split at h
    · rename_i hle
      simp only [Option.some.injEq] at h; subst h
      have ht := (hv.drop off).take m
      refine ⟨.agg ((vs.drop off).take m).toArray, ?_, .agg _ _ _ ht.1 ht.2⟩
      simp only [part, Sem.run_bind, (shp_true hs).1, (shp_true hs).2, Result.andThen_ok, if_true, Sem.run_pure]
      congr 2
      simp only [List.extract_toArray, List.extract_eq_take_drop]
      congr 2
      omega
    · cases h
  · rename_i m hs
    obtain ⟨v, h1, h2⟩ := (hv.drop off).get h
    refine ⟨v, ?_, h2⟩
    simp at h1
    simp [part, (shp_false hs).1, h1]
  · cases h

/-- Field number f of struct type s: its type, where it begins. -/
def fld (P : Tab) (s : TypeId) (f : Nat) : Option (TypeId × Nat) :=
  match P.underlying s with
  | some (.struct fs) => match fs[f]? with
    | some x => match shp P x.type with
      | some (_, 0) => none
      | some _ => some (x.type, x.offset)
      | none => none
    | none => none
  | _ => none
theorem fld_spec {s : TypeId} {f : Nat} {t : TypeId} {o : Nat} (h : fld P s f = some (t, o)) :
    ∃ fs x, P.underlying s = some (.struct fs) ∧ fs[f]? = some x ∧ x.type = t ∧ x.offset = o ∧ ∃ b m, shp P t = some (b, m) ∧ m ≠ 0 := by
  unfold fld at h
  split at h
  · rename_i fs hu
    split at h
    · rename_i x hx
      split at h
      · cases h
      · rename_i y hy hs
        cases h
        obtain ⟨b, m⟩ := y
        exact ⟨fs, x, hu, hx, rfl, rfl, b, m, hs, fun e => hy b (by rw [e])⟩
      · cases h
    · cases h
  · cases h

def fieldAddrA (P : Tab) (s : TypeId) (x : AV) (f : Nat) : Option AV :=
  match fld P s f with
  | some (_, o) => match x with
    | .ptr id off => some (.ptr id (off + o))
    | .fptr cells => some (.fptr (cells.drop o))
    | .gptr g off => some (.gptr g (off + o))
    | _ => none
  | none => none
theorem fieldAddrA_sound {n : Nat} {s : TypeId} {f : Nat} {x z : AV} {v : Value} (w : World) (h : fieldAddrA P s x f = some z) (hv : V ξ Φ μ n v x) :
    ∃ r, (Instr.fieldAt s v f).run P w = .ok r w ∧ V ξ Φ μ n r z := by
  unfold fieldAddrA at h
  split at h
  · rename_i t o hf
    obtain ⟨fs, y, hu, hy, ht, ho, b, m, hs, hm⟩ := fld_spec hf
    have hsz := shp_size hs
    cases hv with
    | ptr _ id off hid =>
      cases h
      refine ⟨_, ?_, .ptr _ _ _ hid⟩
      simp [Instr.fieldAt, run_underlying hu, hy, Instr.sureAddr, fieldPlace, ht, hsz, hm, add_off, ho, Nat.add_assoc]
    | gptr _ g off =>
      cases h
      refine ⟨_, ?_, .gptr _ _ _⟩
      simp [Instr.fieldAt, run_underlying hu, hy, Instr.sureAddr, fieldPlace, ht, hsz, hm, add_off, ho]
    | fptr _ b o' cs t' fz vs cells hb hl hc hv' =>
      cases h
      refine ⟨.pointer (some ⟨b, o' + o, none⟩), ?_, .fptr _ b (o' + o) cs t' fz (vs.drop o) (cells.drop o) hb (by simp [hl]) (fun j v hj => ?_) (fun j v a h1 h2 => ?_)⟩
      · simp [Instr.fieldAt, run_underlying hu, hy, Instr.sureAddr, fieldPlace, ht, hsz, hm, add_off, ho]
      · have := hc (o + j) v (by simpa using hj)
        rw [← this]; congr 1; omega
      · exact hv' (o + j) v a (by simpa using h1) (by simpa using h2)
    | _ => cases h
  · cases h

def fieldA (P : Tab) (s : TypeId) (x : AV) (f : Nat) : Option AV :=
  match fld P s f with
  | some (t, o) => match x with
    | .agg cells => loadA P t (cells.drop o)
    | _ => none
  | none => none
theorem fieldA_sound {n : Nat} {s : TypeId} {f : Nat} {x z : AV} {v : Value} (w : World) (h : fieldA P s x f = some z) (hv : V ξ Φ μ n v x) :
    ∃ r, (Instr.field s v f).run P w = .ok r w ∧ V ξ Φ μ n r z := by
  unfold fieldA at h
  split at h
  · rename_i t o hf
    obtain ⟨fs, y, hu, hy, ht, ho, b, m, hs, hm⟩ := fld_spec hf
    cases hv with
    | agg _ vs as hl hv =>
      obtain ⟨r, h1, h2⟩ := partA_sound (P := P) w h ⟨hl, hv⟩
      exact ⟨r, by simp [Instr.field, run_underlying hu, hy, asAgg, ht, ho, h1], h2⟩
    | _ => cases h
  · cases h

theorem flat_get {esz : Nat} : ∀ (ws : List Value) (hsz : ∀ w ∈ ws, w.cells.size = esz) (i j : Nat) (w : Value) (v : Value), ws[i]? = some w → w.cells.toList[j]? = some v →
    (ws.flatMap fun w => w.cells.toList)[i * esz + j]? = some v
  | [], _, i, j, w, v, h, _ => by simp at h
  | x :: xs, hsz, i, j, w, v, h, hj => by
    have hx : x.cells.toList.length = esz := by simpa using hsz x (by simp)
    rw [List.flatMap_cons, List.getElem?_append]
    cases i with
    | zero =>
      simp at h; subst h
      have : j < esz := by rw [← hx]; exact (List.getElem?_eq_some_iff.1 hj).1
      rw [if_pos (by omega)]
      simpa using hj
    | succ i =>
      rw [if_neg (by rw [hx, Nat.succ_mul]; omega)]
      have := flat_get xs (fun w hw => hsz w (by simp [hw])) i j w v (by simpa using h) hj
      rw [← this]; congr 1
      rw [hx, Nat.succ_mul]; omega

/-- Of a slice or array type: its element's type's shape. -/
def elemShp (P : Tab) (t : TypeId) : Option (TypeId × Bool × Nat) :=
  match P.underlying t with
  | some (.slice e) => match shp P e with
    | some (b, m) => some (e, b, m)
    | none => none
  | _ => none
theorem elemShp_spec {t e : TypeId} {b : Bool} {m : Nat} (h : elemShp P t = some (e, b, m)) : P.underlying t = some (.slice e) ∧ shp P e = some (b, m) := by
  unfold elemShp at h
  split at h
  · rename_i e' hu
    split at h
    · rename_i b' m' hs; cases h; exact ⟨hu, hs⟩
    · cases h
  · cases h
def arrShp (P : Tab) (t : TypeId) : Option (Nat × TypeId × Nat) :=
  match P.underlying t with
  | some (.array n e) => match shp P e with
    | some (_, m) => some (n, e, m)
    | none => none
  | _ => none
theorem arrShp_spec {t e : TypeId} {n m : Nat} (h : arrShp P t = some (n, e, m)) : P.underlying t = some (.array n e) ∧ ∃ b, shp P e = some (b, m) := by
  unfold arrShp at h
  split at h
  · rename_i n' e' hu
    split at h
    · rename_i b' m' hs; cases h; exact ⟨hu, b', hs⟩
    · cases h
  · cases h

def indexAddrA (P : Tab) (t : TypeId) (x i : AV) : Option AV :=
  match i with
  | .int _ i => match x with
    | .slice id off len _ _ _ => match elemShp P t with
      | some (_, _, m) => if 0 ≤ i ∧ i < len then some (.ptr id (off + i.toNat * m)) else none
      | none => none
    | .fslice esz els _ => match elemShp P t with
      | some (_, _, m) => if 0 ≤ i ∧ m = esz then
          match els[i.toNat]? with
          | some el => if el.flat then some (.fptr el.cells) else none
          | none => none
        else none
      | none => none
    | .ptr id off => match arrShp P t with
      | some (n, _, m) => if 0 ≤ i ∧ i < n then some (.ptr id (off + i.toNat * m)) else none
      | none => none
    | .gptr g off => match arrShp P t with
      | some (n, _, m) => if 0 ≤ i ∧ i < n then some (.gptr g (off + i.toNat * m)) else none
      | none => none
    | _ => none
  | _ => none

theorem run_sizeOf_info {e : TypeId} {b : Bool} {m : Nat} (h : shp P e = some (b, m)) (w : World) : (sizeOf e).run P w = .ok m w := shp_size h w

theorem indexAddrA_sound {n : Nat} {t : TypeId} {x i z : AV} {v u : Value} (w : World) (h : indexAddrA P t x i = some z) (hv : V ξ Φ μ n v x) (hi : V ξ Φ μ n u i) :
    ∃ r, (Instr.indexAt t v u).run P w = .ok r w ∧ V ξ Φ μ n r z := by
  unfold indexAddrA at h
  cases hi with
  | int _ k i =>
    simp only at h
    cases hv with
    | slice _ id off len esz ag c cap hid hcap hl hsz =>
      simp only at h
      split at h
      · rename_i e b m he
        obtain ⟨hu, hs⟩ := elemShp_spec he
        split at h
        · rename_i hr
          cases h
          refine ⟨_, ?_, .ptr _ _ _ hid⟩
          simp [Instr.indexAt, run_underlying hu, asIntOf, hr, shp_size hs, add_off, Nat.add_assoc]
        · cases h
      · cases h
    | fnil _ esz a c cap hcap =>
      simp only at h
      split at h
      · split at h
        · simp at h
        · cases h
      · cases h
    | fslice _ b o c esz cap cs t' fz ws els hcap hlc hb hl hsz hc hv' =>
      simp only at h
      split at h
      · rename_i e ag m he
        obtain ⟨hu, hs⟩ := elemShp_spec he
        split at h
        · rename_i hr
          obtain ⟨h0, hm⟩ := hr
          subst hm
          split at h
          · rename_i el hel
            split at h
            · rename_i hfl
              cases h
              have hlt : i.toNat < els.length := (List.getElem?_eq_some_iff.1 hel).1
              have hil : i < els.length := by omega
              have hwi : ws[i.toNat]? = some ws[i.toNat] := by simp
              have hV := hv' i.toNat _ el hwi hel
              have hcs := hV.cells hfl
              refine ⟨.pointer (some ⟨b, o + i.toNat * m, none⟩), ?_, .fptr _ b (o + i.toNat * m) cs t' fz ws[i.toNat].cells.toList el.cells hb hcs.1 (fun j v hj => ?_) (fun j v a h1 h2 => hcs.2 j v a h1 h2)⟩
              · simp [Instr.indexAt, run_underlying hu, asIntOf, h0, hil, shp_size hs, add_off]
              · have := hc _ v (flat_get ws hsz i.toNat j _ v hwi hj)
                rw [← this]; congr 1; omega
            · cases h
          · cases h
        · cases h
      · cases h
    | ptr _ id off hid =>
      simp only at h
      split at h
      · rename_i len e m he
        obtain ⟨hu, b, hs⟩ := arrShp_spec he
        split at h
        · rename_i hr
          cases h
          refine ⟨_, ?_, .ptr _ _ _ hid⟩
          simp [Instr.indexAt, run_underlying hu, asIntOf, Instr.sureAddr, hr, shp_size hs, add_off, Nat.add_assoc]
        · cases h
      · cases h
    | gptr _ g off =>
      simp only at h
      split at h
      · rename_i len e m he
        obtain ⟨hu, b, hs⟩ := arrShp_spec he
        split at h
        · rename_i hr
          cases h
          refine ⟨_, ?_, .gptr _ _ _⟩
          simp [Instr.indexAt, run_underlying hu, asIntOf, Instr.sureAddr, hr, shp_size hs, add_off]
        · cases h
      · cases h
    | _ => cases h
  | _ => cases h

def indexA (P : Tab) (t : TypeId) (x i : AV) : Option AV :=
  match i with
  | .int _ i => match x with
    | .str s => match P.underlying t with
      | some .string => if 0 ≤ i then match (bytes s)[i.toNat]? with
          | some b => some (.int .u8 b.toNat)
          | none => none
        else none
      | _ => none
    | .agg cells => match arrShp P t with
      | some (n, e, m) => if 0 ≤ i ∧ i < n then loadA P e (cells.drop (i.toNat * m)) else none
      | none => none
    | _ => none
  | _ => none
theorem indexA_sound {n : Nat} {t : TypeId} {x i z : AV} {v u : Value} (w : World) (h : indexA P t x i = some z) (hv : V ξ Φ μ n v x) (hi : V ξ Φ μ n u i) :
    ∃ r, (Instr.index t v u).run P w = .ok r w ∧ V ξ Φ μ n r z := by
  unfold indexA at h
  cases hi with
  | int _ k i =>
    simp only at h
    cases hv with
    | str _ s =>
      simp only at h
      split at h
      · rename_i hu
        split at h
        · rename_i h0
          split at h
          · rename_i b hb
            cases h
            refine ⟨_, ?_, .int _ _ _⟩
            have hb' : s[i.toNat]? = some b := by
              obtain ⟨hlt, he⟩ := List.getElem?_eq_some_iff.1 hb
              have hlt2 : i.toNat < s.data.size := by simpa only [bytes, Array.length_toList] using hlt
              have hlt' : i.toNat < s.size := hlt2
              rw [getElem?_pos s i.toNat hlt', ← he]
              exact congrArg some (Array.getElem_toList (xs := s.data) hlt2).symm
            simp [Instr.index, run_underlying hu, asIntOf, h0, hb']
          · cases h
        · cases h
      · cases h
    | agg _ vs as hl hv =>
      simp only at h
      split at h
      · rename_i len e m he
        obtain ⟨hu, b, hs⟩ := arrShp_spec he
        split at h
        · rename_i hr
          obtain ⟨r, h1, h2⟩ := partA_sound (P := P) w h ⟨hl, hv⟩
          exact ⟨r, by simp [Instr.index, run_underlying hu, asIntOf, hr, shp_size hs, h1], h2⟩
        · cases h
      · cases h
    | _ => cases h
  | _ => cases h

/-- A bound of a slice expression. -/
def bnd (x : Option AV) (d y : Nat) : Option Nat :=
  match x with
  | none => some d
  | some (.int _ i) => if 0 ≤ i ∧ i ≤ y then some i.toNat else none
  | _ => none
theorem bnd_sound {n : Nat} {x : AV} {d y k : Nat} {v : Value} {code : BoundsCode} (w : World) (h : bnd (some x) d y = some k) (hv : V ξ Φ μ n v x) :
    (Instr.sliceBound v y code).run P w = .ok k w ∧ k ≤ y := by
  unfold bnd at h
  cases hv with
  | int _ kk i =>
    simp only at h
    split at h
    · rename_i hr
      cases h
      exact ⟨by simp [Instr.sliceBound, asIntOf, hr], by omega⟩
    · cases h
  | _ => cases h

/-- Slicing: 'hi' and 'max' up to the length only. -/
theorem ite_some {α : Type} (p : Prop) [Decidable p] (x y : α) : ∃ a, (if p then some x else some y) = some a := by split <;> exact ⟨_, rfl⟩
/-- A part of a slice that has elements is never nil. -/
def mkS (els r : List AV) (esz : Nat) (cap : Option Nat) : AV :=
  match els, r with
  | _ :: _, [] => .eslice cap
  | _, r => .fslice esz r cap
theorem mkS_nil {r : List AV} {esz : Nat} {cap : Option Nat} : mkS [] r esz cap = .fslice esz r cap := rfl
theorem mkS_pos {els r : List AV} {esz : Nat} {cap : Option Nat} (h : 0 < r.length) : mkS els r esz cap = .fslice esz r cap := by
  cases r with
  | nil => simp at h
  | cons a r => cases els <;> rfl
def sliceA (P : Tab) (t : TypeId) (x : AV) (lo hi mx : Option AV) : Option AV :=
  match x with
  | .str s => match P.underlying t, mx with
    | some .string, none => match bnd hi s.size s.size with
      | some h => match bnd lo 0 h with
        | some l => some (.str (s.extract l h))
        | none => none
      | none => none
    | _, _ => none
  | .fslice esz els cap => match elemShp P t with
    | some (_, _, m) => if m = esz ∨ els = [] then
        match bnd mx els.length els.length with
        | some c => match bnd hi els.length c with
          | some h => match bnd lo 0 h with
            | some l => some (mkS els ((els.take h).drop l) esz (if mx.isSome then some (c - l) else cap.map (· - l)))
            | none => none
          | none => none
        | none => none
      else none
    | none => none
  | .slice id off len esz ag cap => match elemShp P t with
    | some (_, _, m) => if m = esz then
        match bnd mx len len with
        | some c => match bnd hi len c with
          | some h => match bnd lo 0 h with
            | some l => if l < h then some (.slice id (off + l * esz) (h - l) esz ag (if mx.isSome then some (c - l) else cap.map (· - l)))
                else some (.eslice (if mx.isSome then some (c - l) else cap.map (· - l)))
            | none => none
          | none => none
        | none => none
      else none
    | none => none
  | _ => none

def lowS (vlo : Option Value) (y : Nat) (code : BoundsCode) : Sem Nat :=
  match vlo with
  | some v => Instr.sliceBound v y code
  | none => pure 0
theorem sliceBounds_nn (b : Bool) (len c : Nat) (vlo : Option Value) : Instr.sliceBounds b len c vlo none none = (do let l ← lowS vlo len .sliceB; pure (l, len, c)) := by
  cases vlo <;> rfl
theorem sliceBounds_sn (b : Bool) (len c : Nat) (vlo : Option Value) (v : Value) :
    Instr.sliceBounds b len c vlo (some v) none = (do let h ← Instr.sliceBound v c (if b then .sliceAcap else .sliceAlen); let l ← lowS vlo h .sliceB; pure (l, h, c)) := by
  cases vlo <;> rfl
theorem sliceBounds_ss (b : Bool) (len c : Nat) (vlo : Option Value) (v u : Value) :
    Instr.sliceBounds b len c vlo (some v) (some u) =
      (do let m ← Instr.sliceBound u c (if b then .slice3Acap else .slice3Alen); let h ← Instr.sliceBound v m .slice3B; let l ← lowS vlo h .slice3C; pure (l, h, m)) := by
  cases vlo <;> rfl
theorem bnd_wide {n : Nat} {v : Value} {x : AV} {k y y' d : Nat} (w : World) (hV : V ξ Φ μ n v x) (hk : bnd (some x) d y = some k) (hy : y ≤ y') (code : BoundsCode) :
    (Instr.sliceBound v y' code).run P w = .ok k w ∧ k ≤ y := by
  unfold bnd at hk
  cases hV with
  | int _ kk i =>
    simp only at hk
    split at hk
    · rename_i hr
      cases hk
      have : i ≤ (y' : Int) := by omega
      exact ⟨by simp [Instr.sliceBound, asIntOf, hr.1, this], by omega⟩
    · cases hk
  | _ => cases hk
theorem lowS_ok {n : Nat} {lo : Option AV} {vlo : Option Value} {h l : Nat} (w : World) (h3 : bnd lo 0 h = some l)
    (e1 : ∀ x, lo = some x → ∃ v, vlo = some v ∧ V ξ Φ μ n v x) (e1' : lo = none → vlo = none) (code : BoundsCode) : (lowS vlo h code).run P w = .ok l w ∧ l ≤ h := by
  cases lo with
  | none => simp only [bnd, Option.some.injEq] at h3; subst h3; rw [e1' rfl]; exact ⟨rfl, Nat.zero_le _⟩
  | some x =>
    obtain ⟨v, hv, hV⟩ := e1 x rfl
    rw [hv]
    exact bnd_wide w hV h3 (Nat.le_refl _) code
theorem sliceBounds_ok {n len c : Nat} {lo hi mx : Option AV} {vlo vhi vmx : Option Value} {m h l : Nat} (w : World) (b : Bool)
    (h1 : bnd mx len len = some m) (h2 : bnd hi len m = some h) (h3 : bnd lo 0 h = some l) (hc : len ≤ c) (hmh : mx.isSome → hi.isSome)
    (e1 : ∀ x, lo = some x → ∃ v, vlo = some v ∧ V ξ Φ μ n v x) (e1' : lo = none → vlo = none)
    (e2 : ∀ x, hi = some x → ∃ v, vhi = some v ∧ V ξ Φ μ n v x) (e2' : hi = none → vhi = none)
    (e3 : ∀ x, mx = some x → ∃ v, vmx = some v ∧ V ξ Φ μ n v x) (e3' : mx = none → vmx = none) :
    (Instr.sliceBounds b len c vlo vhi vmx).run P w = .ok (l, h, if mx.isSome then m else c) w ∧ l ≤ h ∧ h ≤ m ∧ m ≤ len := by
  have low := fun code => lowS_ok (P := P) (ξ := ξ) (Φ := Φ) (μ := μ) (n := n) w h3 e1 e1' code
  cases mx with
  | none =>
    simp only [bnd, Option.some.injEq] at h1; subst h1
    rw [e3' rfl]
    cases hi with
    | none =>
      simp only [bnd, Option.some.injEq] at h2; subst h2
      rw [e2' rfl]
      refine ⟨?_, (low .sliceB).2, Nat.le_refl _, Nat.le_refl _⟩
      simp [sliceBounds_nn, (low .sliceB).1]
    | some x =>
      obtain ⟨v, hv, hV⟩ := e2 x rfl
      rw [hv]
      have hh := fun code => bnd_wide (P := P) w hV h2 hc code
      refine ⟨?_, (low .sliceB).2, (hh .sliceAcap).2, Nat.le_refl _⟩
      simp [sliceBounds_sn, hh, (low .sliceB).1]
  | some y =>
    obtain ⟨vm, hvm, hVm⟩ := e3 y rfl
    rw [hvm]
    have hm := fun code => bnd_wide (P := P) w hVm h1 hc code
    cases hi with
    | none => simp at hmh
    | some x =>
      obtain ⟨v, hv, hV⟩ := e2 x rfl
      rw [hv]
      have hh := fun code => bnd_wide (P := P) w hV h2 (Nat.le_refl _) code
      refine ⟨?_, (low .sliceB).2, (hh .slice3B).2, (hm .slice3Acap).2⟩
      simp [sliceBounds_ss, hh, hm, (low .slice3C).1]

theorem flat_len {esz : Nat} : ∀ (ws : List Value) (_ : ∀ w ∈ ws, w.cells.size = esz), (ws.flatMap fun w => w.cells.toList).length = ws.length * esz
  | [], _ => by simp
  | x :: xs, h => by
    have := flat_len xs (fun w hw => h w (by simp [hw]))
    have hx := h x (by simp)
    simp [List.flatMap_cons, Nat.succ_mul, hx] at this ⊢
    omega
theorem flat_drop {esz : Nat} : ∀ (ws : List Value) (_ : ∀ w ∈ ws, w.cells.size = esz) (l : Nat), ((ws.drop l).flatMap fun w => w.cells.toList) = (ws.flatMap fun w => w.cells.toList).drop (l * esz)
  | ws, _, 0 => by simp
  | [], _, l + 1 => by simp
  | x :: xs, h, l + 1 => by
    have hx : x.cells.toList.length = esz := by simpa using h x (by simp)
    have e : ∀ F : List Value, (x.cells.toList ++ F).drop (l * esz + esz) = F.drop (l * esz) := fun F => by
      rw [List.drop_append, List.drop_eq_nil_of_le (by omega : x.cells.toList.length ≤ l * esz + esz), hx, Nat.add_sub_cancel, List.nil_append]
    rw [List.drop_succ_cons, flat_drop xs (fun w hw => h w (by simp [hw])) l, List.flatMap_cons, Nat.succ_mul, e]
theorem flat_take {esz : Nat} : ∀ (ws : List Value) (_ : ∀ w ∈ ws, w.cells.size = esz) (l : Nat), ((ws.take l).flatMap fun w => w.cells.toList) = (ws.flatMap fun w => w.cells.toList).take (l * esz)
  | ws, _, 0 => by simp
  | [], _, l + 1 => by simp
  | x :: xs, h, l + 1 => by
    have hx : x.cells.toList.length = esz := by simpa using h x (by simp)
    have e : ∀ F : List Value, (x.cells.toList ++ F).take (l * esz + esz) = x.cells.toList ++ F.take (l * esz) := fun F => by
      rw [List.take_append, List.take_of_length_le (by omega : x.cells.toList.length ≤ l * esz + esz), hx, Nat.add_sub_cancel]
    rw [List.take_succ_cons, List.flatMap_cons, flat_take xs (fun w hw => h w (by simp [hw])) l, List.flatMap_cons, Nat.succ_mul, e]

theorem sliceA_sound {n : Nat} {t : TypeId} {x z : AV} {lo hi mx : Option AV} {v : Value} {vlo vhi vmx : Option Value} (w : World) (h : sliceA P t x lo hi mx = some z)
    (hv : V ξ Φ μ n v x) (hmh : mx.isSome → hi.isSome)
    (e1 : ∀ x, lo = some x → ∃ v, vlo = some v ∧ V ξ Φ μ n v x) (e1' : lo = none → vlo = none)
    (e2 : ∀ x, hi = some x → ∃ v, vhi = some v ∧ V ξ Φ μ n v x) (e2' : hi = none → vhi = none)
    (e3 : ∀ x, mx = some x → ∃ v, vmx = some v ∧ V ξ Φ μ n v x) (e3' : mx = none → vmx = none) :
    ∃ r, (Instr.sliceAt t v vlo vhi vmx).run P w = .ok r w ∧ V ξ Φ μ n r z := by
  unfold sliceA at h
  cases hv with
  | str _ s =>
    simp only at h
    split at h
    · rename_i hu
      split at h
      · rename_i hh e2s
        split at h
        · rename_i l e3s
          cases h
          have hb := (sliceBounds_ok (P := P) (ξ := ξ) (Φ := Φ) (μ := μ) (n := n) w false (len := s.size) (c := s.size) (mx := none) rfl e2s e3s (Nat.le_refl _) hmh e1 e1' e2 e2' e3 e3').1
          refine ⟨_, ?_, .str _ _⟩
          have hm := e3' rfl
          subst hm
          simp [Instr.sliceAt, Instr.slice, run_underlying hu, hb]
        · cases h
      · cases h
    · cases h
  | fnil _ esz a c cap hcap =>
    simp only at h
    split at h
    · rename_i e ag m he
      obtain ⟨hu, hs⟩ := elemShp_spec he
      simp only [or_true, if_true] at h
      split at h
      · rename_i cc e1s
        split at h
        · rename_i hh e2s
          split at h
          · rename_i l e3s
            cases h
            obtain ⟨hb, h1, h2, h3⟩ := sliceBounds_ok (P := P) (ξ := ξ) (Φ := Φ) (μ := μ) (n := n) w true (len := 0) (c := c) e1s e2s e3s (Nat.zero_le _) hmh e1 e1' e2 e2' e3 e3'
            have hl : l = 0 := by simp at h3; omega
            have hh0 : hh = 0 := by simp at h3; omega
            subst hl; subst hh0
            refine ⟨.slice (if (if mx.isSome = true then cc else c) = 0 then a else a.map (·.add (0 * m))) (0 - 0) ((if mx.isSome = true then cc else c) - 0),
              by simp only [Instr.sliceAt, Instr.slice, run_underlying hu, Sem.run_bind, Result.andThen_ok, hb, shp_size hs, Sem.run_pure], ?_⟩
            simp only [List.take_nil, List.drop_nil, Nat.sub_self, mkS_nil]
            refine .fnil _ _ _ _ _ (fun k hk => ?_)
            cases mx with
            | none =>
              have e0 : cap = some k := by
                cases cap with
                | none => simp at hk
                | some y => simpa using hk
              simp; exact hcap k e0
            | some y => simp at hk ⊢; omega
          · cases h
        · cases h
      · cases h
    · cases h
  | fslice _ b o c esz cap cs t' fz ws els hcap hlc hb hl hsz hc hv' =>
    simp only at h
    split at h
    · rename_i e ag m he
      obtain ⟨hu, hs⟩ := elemShp_spec he
      split at h
      · rename_i hme
        split at h
        · rename_i cc e1s
          split at h
          · rename_i hh e2s
            split at h
            · rename_i l e3s
              cases h
              obtain ⟨hb', h1, h2, h3⟩ := sliceBounds_ok (P := P) (ξ := ξ) (Φ := Φ) (μ := μ) (n := n) w true (len := els.length) (c := c) e1s e2s e3s hlc hmh e1 e1' e2 e2' e3 e3'
              have hcap' : ∀ k, (if mx.isSome = true then some (cc - l) else cap.map (· - l)) = some k → (if mx.isSome = true then cc else c) - l = k := by
                intro k hk
                split at hk
                · rename_i hm; rw [if_pos hm]; simpa using hk
                · rename_i hm; rw [if_neg hm]; simp at hk; obtain ⟨a, ha, rfl⟩ := hk; rw [hcap a ha]
              have hrun : (Instr.sliceAt t (.slice (some ⟨b, o, none⟩) els.length c) vlo vhi vmx).run P w =
                  .ok (.slice (if (if mx.isSome = true then cc else c) = l then some ⟨b, o, none⟩ else some ⟨b, o + l * m, none⟩) (hh - l) ((if mx.isSome = true then cc else c) - l)) w := by
                simp only [Instr.sliceAt, Instr.slice, run_underlying hu, Sem.run_bind, Result.andThen_ok, hb', shp_size hs, Sem.run_pure, Option.map_some, add_off]
              by_cases hlh : l < hh
              · have hne : (if mx.isSome = true then cc else c) ≠ l := by split <;> omega
                rw [if_neg hne] at hrun
                refine ⟨_, hrun, ?_⟩
                have hm : m = esz := by
                  rcases hme with e' | e'
                  · exact e'
                  · subst e'; simp at h3; omega
                subst hm
                have hlen : ((els.take hh).drop l).length = hh - l := by simp; omega
                rw [mkS_pos (by omega), ← hlen]
                refine .fslice _ b (o + l * m) _ m _ cs t' fz ((ws.take hh).drop l) _ hcap' (by rw [hlen]; split <;> omega) hb (by simp [hl]) (fun x hx => hsz x (List.mem_of_mem_take (List.mem_of_mem_drop hx))) (fun j v hj => ?_) (fun j x a h1 h2 => ?_)
                · rw [flat_drop _ (fun x hx => hsz x (List.mem_of_mem_take hx)), flat_take _ hsz] at hj
                  simp only [List.getElem?_drop] at hj
                  rw [List.getElem?_take] at hj
                  split at hj
                  · have := hc _ v hj
                    rw [← this]; congr 1; omega
                  · cases hj
                · simp only [List.getElem?_drop] at h1 h2
                  rw [List.getElem?_take] at h1 h2
                  split at h1
                  · rename_i hlt; rw [if_pos hlt] at h2; exact hv' _ _ _ h1 h2
                  · cases h1
              · have he0 : (els.take hh).drop l = [] := List.drop_eq_nil_of_le (by simp; omega)
                rw [he0]
                have hz : hh - l = 0 := by omega
                rw [hz] at hrun
                obtain ⟨a, ha⟩ : ∃ a, (if (if mx.isSome = true then cc else c) = l then some (⟨b, o, none⟩ : Addr) else some ⟨b, o + l * m, none⟩) = some a := ite_some _ _ _
                rw [ha] at hrun
                refine ⟨_, hrun, ?_⟩
                cases els with
                | nil => exact .fnil _ _ _ _ _ hcap'
                | cons e0 er => exact .eslice _ _ _ _ hcap'
            · cases h
          · cases h
        · cases h
      · cases h
    · cases h
  | slice _ id off len esz ag c cap hid hcap hlc hsz =>
    simp only at h
    split at h
    · rename_i e ag' m he
      obtain ⟨hu, hs⟩ := elemShp_spec he
      split at h
      · rename_i hme
        subst hme
        split at h
        · rename_i cc e1s
          split at h
          · rename_i hh e2s
            split at h
            · rename_i l e3s
              obtain ⟨hb', h1, h2, h3⟩ := sliceBounds_ok (P := P) (ξ := ξ) (Φ := Φ) (μ := μ) (n := n) w true (len := len) (c := c) e1s e2s e3s hlc hmh e1 e1' e2 e2' e3 e3'
              have hcap' : ∀ k, (if mx.isSome = true then some (cc - l) else cap.map (· - l)) = some k → (if mx.isSome = true then cc else c) - l = k := by
                intro k hk
                split at hk
                · rename_i hm; rw [if_pos hm]; simpa using hk
                · rename_i hm; rw [if_neg hm]; simp at hk; obtain ⟨a, ha, rfl⟩ := hk; rw [hcap a ha]
              have hrun : (Instr.sliceAt t (.slice (some ⟨(μ id).block, (μ id).base + off, none⟩) len c) vlo vhi vmx).run P w =
                  .ok (.slice (if (if mx.isSome = true then cc else c) = l then some ⟨(μ id).block, (μ id).base + off, none⟩ else some ⟨(μ id).block, (μ id).base + off + l * m, none⟩) (hh - l) ((if mx.isSome = true then cc else c) - l)) w := by
                simp only [Instr.sliceAt, Instr.slice, run_underlying hu, Sem.run_bind, Result.andThen_ok, hb', shp_size hs, Sem.run_pure, Option.map_some, add_off]
              split at h
              · rename_i hlh
                cases h
                have hne : (if mx.isSome = true then cc else c) ≠ l := by split <;> omega
                rw [if_neg hne, Nat.add_assoc] at hrun
                refine ⟨_, hrun, .slice _ _ _ _ _ _ _ _ hid hcap' (by split <;> omega) ?_⟩
                have hle : l * m + ((if mx.isSome = true then cc else c) - l) * m ≤ c * m := by
                  rw [← Nat.add_mul]
                  exact Nat.mul_le_mul_right _ (by split <;> omega)
                omega
              · rename_i hlh
                cases h
                have hz : hh - l = 0 := by omega
                rw [hz] at hrun
                obtain ⟨a, ha⟩ : ∃ a, (if (if mx.isSome = true then cc else c) = l then some (⟨(μ id).block, (μ id).base + off, none⟩ : Addr) else some ⟨(μ id).block, (μ id).base + off + l * m, none⟩) = some a := ite_some _ _ _
                rw [ha] at hrun
                exact ⟨_, hrun, .eslice _ _ _ _ hcap'⟩
            · cases h
          · cases h
        · cases h
      · cases h
    · cases h
  | _ => cases h
end
end Go.Ai
end
