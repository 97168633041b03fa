/- THE ABSTRACT INTERPRETER, PART 6: append, copy, make; maps that are written. -/
import Derived.Test.YtaghpkljmnpjoaaGreatDoorE5
set_option linter.unusedVariables false
set_option linter.unusedSimpArgs false
noncomputable section
namespace Go.Ai
variable {ξ : Env}

section
variable {P : Program} {Φ : Nat → Option Obj} {μ : Nat → Pl}

theorem bytes_extract (s : ByteArray) (i j : Nat) : bytes (s.extract i j) = ((bytes s).drop i).take (j - i) := by
  simp [bytes, ByteArray.data_extract, List.extract_eq_take_drop]
theorem bytes_append (s t : ByteArray) : bytes (s ++ t) = bytes s ++ bytes t := by
  simp [bytes]

theorem get_kp (H : AH) (id i : Nat) (o : AObj) : ((H.kill id).push o).get i = if H.next = i then some o else if id = i then none else H.get i := by
  rw [AH.get_push, AH.get_kill]; rfl

/-- The object 'id' is gone; another one lies in its block. -/
theorem R.moved {H : AH} {w w' : World} (h : R ξ Φ μ H w) (id : Nat) (old o : AObj) (p : Pl) (hi : H.get id = some old) (hp : p.block = (μ id).block)
    (hw : ∀ b, b ≠ (μ id).block → w'.heap[b]? = w.heap[b]?) (ho : OR ξ Φ (upd μ H.next p) (H.next + 1) w' p o) : R ξ Φ (upd μ H.next p) ((H.kill id).push o) w' where
  obj i o' hi' := by
    rw [get_kp] at hi'
    split at hi'
    · rename_i e
      cases hi'
      rw [← e]
      show OR ξ Φ _ _ w' (upd μ H.next p H.next) o
      rw [upd_same]; exact ho
    · rename_i e
      split at hi'
      · cases hi'
      · rename_i e2
        rw [upd_other _ _ _ _ (Ne.symm e)]
        exact (h.obj i o' hi').mono (fun _ _ h => h) (Nat.le_succ _) (fun j hj => upd_other _ _ _ _ (Nat.ne_of_lt hj)) (hw _ (h.inj i id _ _ hi' hi (Ne.symm e2)))
  lt i o' hi' := by
    rw [get_kp] at hi'
    split at hi'
    · rename_i e; rw [← e]; exact Nat.lt_succ_self _
    · split at hi'
      · cases hi'
      · exact Nat.lt_succ_of_lt (h.lt i o' hi')
  inj i j a b hi' hj hne := by
    rw [get_kp] at hi' hj
    split at hi' <;> split at hj
    · rename_i e1 e2; exact absurd (e1.symm.trans e2) hne
    · rename_i e1 e2
      split at hj
      · cases hj
      · rename_i e3
        rw [← e1]
        show (upd μ H.next p H.next).block ≠ _
        rw [upd_same, upd_other _ _ _ _ (Ne.symm e2), hp]
        exact h.inj id j _ _ hi hj e3
    · rename_i e1 e2
      split at hi'
      · cases hi'
      · rename_i e3
        rw [← e2]
        show _ ≠ (upd μ H.next p H.next).block
        rw [upd_same, upd_other _ _ _ _ (Ne.symm e1), hp]
        exact h.inj i id _ _ hi' hi (Ne.symm e3)
    · rename_i e1 e2
      split at hi'
      · cases hi'
      · split at hj
        · cases hj
        · rw [upd_other _ _ _ _ (Ne.symm e1), upd_other _ _ _ _ (Ne.symm e2)]
          exact h.inj i j a b hi' hj hne
  frz b ob hb := by
    rw [hw b (fun e => h.dis id old b ob hi hb e.symm)]; exact h.frz b ob hb
  dis i a b ob hi' hb := by
    rw [get_kp] at hi'
    split at hi'
    · rename_i e
      rw [← e]
      show (upd μ H.next p H.next).block ≠ b
      rw [upd_same, hp]; exact h.dis id old b ob hi hb
    · rename_i e
      split at hi'
      · cases hi'
      · rw [upd_other _ _ _ _ (Ne.symm e)]
        exact h.dis i a b ob hi' hb
  glob g cs hg := glob_mono (fun _ _ h => h) (h.glob g cs hg)

theorem T.moved {H : AH} {w w' : World} (id : Nat) (old o : AObj) (p : Pl) (hi : H.get id = some old) (hp : p.block = (μ id).block) (_h : R ξ Φ μ H w)
    (hw : ∀ b, b ≠ (μ id).block → w'.heap[b]? = w.heap[b]?) (hsz : w.heap.size ≤ w'.heap.size) (ho : w'.os = w.os) (ht : w'.tape = w.tape) (hu : w'.output = w.output) :
    T Φ μ H w Φ (upd μ H.next p) ((H.kill id).push o) w' where
  phi _ _ h := h
  mu i hi := upd_other _ _ _ _ (Nat.ne_of_lt hi)
  next := Nat.le_succ _
  size := hsz
  os := ho
  tape := ht
  output := hu
  same b _ hno := hw b (fun e => hno id old hi e.symm)
  own i o' hi' := by
    rw [get_kp] at hi'
    split at hi'
    · rename_i e
      rw [← e]
      refine .inl ⟨id, old, hi, ?_⟩
      show (upd μ H.next p H.next).block = _
      rw [upd_same, hp]
    · rename_i e
      split at hi'
      · cases hi'
      · rw [upd_other _ _ _ _ (Ne.symm e)]; exact .inl ⟨i, o', hi', rfl⟩
  kno _ _ h := .inl h

theorem R.kill {H : AH} {w : World} (h : R ξ Φ μ H w) (id : Nat) : R ξ Φ μ (H.kill id) w :=
  h.forget rfl (fun i o hi => by
    rw [AH.get_kill] at hi
    split at hi
    · cases hi
    · exact hi) (fun _ _ h => h)
theorem T.kill {H : AH} {w : World} (id : Nat) : T Φ μ H w Φ μ (H.kill id) w where
  phi _ _ h := h
  mu _ _ := rfl
  next := Nat.le_refl _
  size := Nat.le_refl _
  os := rfl
  tape := rfl
  output := rfl
  same _ _ _ := rfl
  own i o hi := by
    rw [AH.get_kill] at hi
    split at hi
    · cases hi
    · exact .inl ⟨i, o, hi, rfl⟩
  kno _ _ h := .inl h

/-- What is appended, or copied: how many elements, their cells. -/
def srcA (P : Tab) (H : AH) (t : TypeId) (m : Nat) (x : AV) : Option (Nat × List AV) :=
  match P.underlying t, x with
  | some (.slice _), .fslice esz els _ => if els = [] then some (0, [])
      else if esz = m ∧ els.all AV.flat then some (els.length, els.flatMap AV.cells) else none
  | some (.slice _), .slice id off len esz _ _ => if esz = m then
      match H.get id with
      | some (.cells _ cs) => if off + len * m ≤ cs.length then some (len, (cs.drop off).take (len * m)) else none
      | _ => none
    else none
  | some .string, .str s => if m = 1 then some (s.size, (bytes s).map fun b => .int .u8 b.toNat) else none
  | _, _ => none

theorem Vs.flat {n m : Nat} : ∀ {ws : List Value} {els : List AV}, ws.length = els.length → (∀ (j : Nat) w a, ws[j]? = some w → els[j]? = some a → V ξ Φ μ n w a) → els.all AV.flat = true →
    Vs ξ Φ μ n (ws.flatMap fun w => w.cells.toList) (els.flatMap AV.cells)
  | [], els, hl, hv, hf => by
    have : els = [] := by simpa using hl.symm
    subst this; exact Vs.nil
  | w :: ws, els, hl, hv, hf => by
    cases els with
    | nil => simp at hl
    | cons a els =>
      simp only [List.all_cons, Bool.and_eq_true] at hf
      rw [List.flatMap_cons, List.flatMap_cons]
      exact ((hv 0 w a rfl rfl).cells hf.1).append (Vs.flat (m := m) (by simpa using hl) (fun j w a h1 h2 => hv (j + 1) w a (by simpa using h1) (by simpa using h2)) hf.2)
theorem flat_ones {n : Nat} : ∀ {vs : List Value} {as : List AV}, Vs ξ Φ μ n vs as → as.all AV.one = true → ∀ v ∈ vs, v.oneCell' = true := by
  intro vs as h ha v hv
  obtain ⟨j, hj⟩ := List.getElem?_of_mem hv
  have hlt : j < as.length := by rw [← h.1]; exact (List.getElem?_eq_some_iff.1 hj).1
  exact (h.2 j v as[j] hj (by simp)).one ((List.all_eq_true.1 ha) _ (List.getElem_mem _))
theorem all_one_flatMap : ∀ {els : List AV}, els.all AV.flat = true → (els.flatMap AV.cells).all AV.one = true
  | [], _ => rfl
  | a :: els, h => by
    simp only [List.all_cons, Bool.and_eq_true] at h
    rw [List.flatMap_cons, List.all_append, all_one_flatMap h.2, Bool.and_true]
    cases a <;> simp only [AV.cells] <;> first
      | exact h.1
      | (simp only [List.all_cons, List.all_nil, Bool.and_true]; exact h.1)

/-- The values in the cells that an object shows. -/
theorem srcA_sound {H : AH} {w : World} {t : TypeId} {m k : Nat} {x : AV} {cs : List AV} {v : Value} (hR : R ξ Φ μ H w) (h : srcA P H t m x = some (k, cs)) (hone : cs.all AV.one = true) (hv : V ξ Φ μ H.next v x) :
    ∃ vs, (Builtin.lenOf v).run P w = .ok k w ∧ vs.length = k * m ∧ Vs ξ Φ μ H.next vs cs ∧ (∀ u ∈ vs, u.oneCell' = true) ∧
      ((∃ e, P.underlying t = some (.slice e)) ∨ P.underlying t = some .string) ∧
      ∀ j, j ≤ k → ∀ w', w'.heap = w.heap → (Builtin.firstCells m j v).run P w' = .ok (vs.take (j * m)).toArray w' := by
  have cellEq : ∀ (w' : World), w'.heap = w.heap → ∀ a, w'.cell? a = w.cell? a := fun w' hw a => by simp [World.cell?, hw]
  unfold srcA at h
  split at h
  · rename_i e esz els cap hu
    split at h
    · rename_i he
      cases h
      subst he
      have hnil : ∃ a c, v = .slice a 0 c := by
        cases hv with
        | fnil _ _ a c _ _ => exact ⟨a, c, rfl⟩
        | fslice _ b o c _ _ cs' t' fz ws els hcap hlc hb hl hsz hc hv' => exact ⟨_, _, rfl⟩
      obtain ⟨a, c, rfl⟩ := hnil
      refine ⟨[], rfl, by simp, Vs.nil, by simp, .inl ⟨_, hu⟩, fun j hj w' hw => ?_⟩
      have : j = 0 := by omega
      subst this
      cases a <;> simp [Builtin.firstCells, loadCells, loadCellsFrom]
    · rename_i hne
      split at h
      · rename_i hc'
        obtain ⟨hm, hf⟩ := hc'
        cases h
        subst hm
        cases hv with
        | fnil => exact absurd rfl hne
        | fslice _ b o c _ _ cs' t' fz ws els hcap hlc hb hl hsz hc hv' =>
          have hVs := Vs.flat (m := esz) (n := H.next) hl (fun j w a h1 h2 => (hv' j w a h1 h2).up) hf
          refine ⟨_, rfl, by rw [flat_len ws hsz, hl], hVs, flat_ones hVs hone, .inl ⟨_, hu⟩, fun j hj w' hw => ?_⟩
          have hlen : ((ws.flatMap fun w => w.cells.toList).take (j * esz)).length = j * esz := by
            rw [List.length_take, flat_len ws hsz, hl]
            exact Nat.min_eq_left (Nat.mul_le_mul_right _ hj)
          have := run_loadCells_list (P := P) w' ⟨b, o, none⟩ ((ws.flatMap fun w => w.cells.toList).take (j * esz)) (fun i u hi => by
            rw [add_off, cellEq w' hw, cell_of_row' w _ _ _ _ _ (hR.frz _ _ hb)]
            rw [List.getElem?_take] at hi
            split at hi
            · exact hc i u hi
            · cases hi)
          rw [hlen] at this
          simpa [Builtin.firstCells] using this
      · cases h
  · rename_i e id off len esz ag cap hu
    split at h
    · rename_i hm
      subst hm
      split at h
      · rename_i str cs' hg
        split at h
        · rename_i hle
          cases h
          cases hv with
          | slice _ _ _ _ _ _ c _ hid hcap hlc hsz =>
            obtain ⟨c', t', vs, h1, h2, h3, h4, h5⟩ := hR.obj _ _ hg
            have hVs := (h5.drop off).take (k * esz)
            have hvl := h5.1
            have hlen0 : ((vs.drop off).take (k * esz)).length = k * esz := by simp; omega
            refine ⟨_, rfl, hlen0, hVs, flat_ones hVs hone, .inl ⟨_, hu⟩, fun j hj w' hw => ?_⟩
            have hjm : j * esz ≤ k * esz := Nat.mul_le_mul_right _ hj
            have hlen : (((vs.drop off).take (k * esz)).take (j * esz)).length = j * esz := by
              rw [List.length_take, hlen0]; exact Nat.min_eq_left hjm
            have := run_loadCells_list (P := P) w' ⟨(μ id).block, (μ id).base + off, none⟩ (((vs.drop off).take (k * esz)).take (j * esz)) (fun i u hi => by
              rw [add_off, cellEq w' hw, cell_of_row' w _ _ _ _ _ h1]
              rw [List.getElem?_take] at hi
              split at hi
              · rw [List.getElem?_take] at hi
                split at hi
                · have := h4 (off + i) u (by simpa using hi)
                  rw [← this]; congr 1; omega
                · cases hi
              · cases hi)
            rw [hlen] at this
            simpa [Builtin.firstCells] using this
        · cases h
      · cases h
    · cases h
  · rename_i s hu
    split at h
    · rename_i hm
      subst hm
      cases h
      cases hv
      have hb : s.data.toList = bytes s := rfl
      have hsz : s.size = (bytes s).length := by simp [bytes]
      refine ⟨(bytes s).map fun b => .int .u8 b.toNat, rfl, by simp [hsz], ⟨by simp, fun j v a h1 h2 => ?_⟩, fun u hu => ?_, .inr hu, fun j hj w' hw => ?_⟩
      · simp only [List.getElem?_map] at h1 h2
        cases hq : (bytes s)[j]? with
        | none => rw [hq] at h1; cases h1
        | some b => rw [hq] at h1 h2; cases h1; cases h2; exact .int _ _ _
      · simp only [List.mem_map] at hu
        obtain ⟨b, _, rfl⟩ := hu
        rfl
      · simp only [Builtin.firstCells, Sem.run_pure, Nat.mul_one]
        congr 1
        apply Array.ext'
        simp [bytes]
    · cases h
  · cases h
end
end Go.Ai
end
