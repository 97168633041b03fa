/- THE ABSTRACT INTERPRETER, PART 19: regions that draw their order: soundness. -/
import Derived.Test.YtaghpkljmnpjoaaGreatDoorED
set_option linter.unusedVariables false
set_option linter.unusedSimpArgs false
noncomputable section
namespace Go.Ai

/- Masks. -/
theorem maskOf_bit {acc : List Nat} {o : Oper} {j : Nat} (h : (maskOf acc o).testBit j = true) : ∃ e ∈ o.after.toList, Region.binds .any e = true ∧ (e.on = j ∨ (acc.getD e.on 0).testBit j = true) := by
  have key : ∀ (l : List Edge) (s : Nat), (l.foldl (fun s e => if Region.binds .any e then s ||| 2 ^ e.on ||| acc.getD e.on 0 else s) s).testBit j = true → s.testBit j = true ∨ ∃ e ∈ l, Region.binds .any e = true ∧ (e.on = j ∨ (acc.getD e.on 0).testBit j = true) := by
    intro l
    induction l with
    | nil => intro s h; exact .inl h
    | cons e l ih =>
      intro s h
      rcases ih _ h with h | ⟨e', he, h⟩
      · dsimp only at h
        split at h
        · rename_i hb
          simp only [Nat.testBit_or, Bool.or_eq_true, Nat.testBit_two_pow, decide_eq_true_eq] at h
          rcases h with (h | h) | h
          · exact .inl h
          · exact .inr ⟨e, List.mem_cons_self, hb, .inl h⟩
          · exact .inr ⟨e, List.mem_cons_self, hb, .inr h⟩
        · exact .inl h
      · exact .inr ⟨e', List.mem_cons_of_mem _ he, h⟩
  rcases key _ _ h with h | h
  · simp at h
  · exact h
theorem masks_spec : ∀ {l : List Oper} {acc : List Nat}, (masks l acc).length = acc.length + l.length ∧ (∀ i, i < acc.length → (masks l acc)[i]? = acc[i]?) ∧
    ∀ (k : Nat) o, l[k]? = some o → (masks l acc)[acc.length + k]? = some (maskOf ((masks l acc).take (acc.length + k)) o)
  | [], acc => ⟨by simp [masks], fun i hi => rfl, fun k o h => by simp at h⟩
  | o :: r, acc => by
    obtain ⟨h1, h2, h3⟩ := masks_spec (l := r) (acc := acc ++ [maskOf acc o])
    simp only [List.length_append, List.length_singleton] at h1 h2 h3
    refine ⟨by simp only [masks, h1, List.length_cons]; omega, fun i hi => ?_, fun k o' hk => ?_⟩
    · simp only [masks]
      rw [h2 i (by omega), List.getElem?_append_left hi]
    · cases k with
      | zero =>
        simp only [List.getElem?_cons_zero, Option.some.injEq] at hk
        subst hk
        simp only [masks, Nat.add_zero]
        rw [h2 _ (by omega), List.getElem?_append_right (Nat.le_refl _), Nat.sub_self]
        have : (masks r (acc ++ [maskOf acc o])).take acc.length = acc := by
          apply List.ext_getElem?
          intro j
          rw [List.getElem?_take]
          split
          · rename_i hj
            rw [h2 j (by omega), List.getElem?_append_left hj]
          · rename_i hj
            rw [List.getElem?_eq_none (by omega)]
        rw [this]; rfl
      | succ k =>
        simp only [List.getElem?_cons_succ] at hk
        have := h3 k o' hk
        simp only [masks]
        rw [show acc.length + (k + 1) = acc.length + 1 + k by omega]; exact this

/-- What is listed holds all that stands before it. -/
def Shut (ops : List Oper) (L : Nat → Prop) : Prop := ∀ (i : Nat) o, ops[i]? = some o → L i → ∀ e ∈ o.after.toList, Region.binds .any e = true → L e.on
theorem mask_in {ops : List Oper} {L : Nat → Prop} (hL : Shut ops L) : ∀ (i : Nat) o q j, ops[i]? = some o → (masks ops [])[i]? = some q → (∀ e ∈ o.after.toList, Region.binds .any e = true → L e.on) → q.testBit j = true → L j := by
  intro i
  induction i using Nat.strongRecOn with
  | _ i ih =>
    intro o q j ho hq hall hb
    obtain ⟨_, _, h3⟩ := masks_spec (l := ops) (acc := [])
    have := h3 i o ho
    simp only [List.length_nil, Nat.zero_add] at this
    rw [this] at hq; cases hq
    obtain ⟨e, he, hbd, h | h⟩ := maskOf_bit hb
    · exact h ▸ hall e he hbd
    · rw [List.getD_eq_getElem?_getD, List.getElem?_take] at h
      split at h
      · rename_i hlt
        cases hm : (masks ops [])[e.on]? with
        | none => rw [hm] at h; simp at h
        | some q' =>
          rw [hm] at h
          simp only [Option.getD_some] at h
          have hlen : e.on < ops.length := by
            have h1 := (List.getElem?_eq_some_iff.1 hm).1
            have h2 := (masks_spec (l := ops) (acc := [])).1
            simp at h2; omega
          have ho' : ops[e.on]? = some ops[e.on] := by simp [hlen]
          exact ih e.on hlt _ _ j ho' hm (hL _ _ ho' (hall e he hbd)) h
      · simp at h

/- The conditions on a region that draws. -/
def cntE : List PK → Nat → Nat
  | _, 0 => 0
  | [], _ + 1 => 0
  | k :: r, i + 1 => (if k.ef then 1 else 0) + cntE r i
def isSel (o : Oper) : Bool := match o.op with | .select .. => true | _ => false
def bitOf (ms : List Nat) (j i : Nat) : Bool := (ms.getD j 0).testBit i
/-- The pair i < j. -/
def okPair (ops : List Oper) (ms : List Nat) (i j : Nat) (oi oj : Oper) (ki kj : PK) : Bool :=
  (match oi.dst with
    | some d => (!(namesOf ops oj).contains d || bitOf ms j i) && oj.dst != some d
    | none => true) &&
  (match oj.dst with
    | some d => !(namesOf ops oi).contains d || bitOf ms j i
    | none => true) &&
  (match ki.ef, kj with
    | true, .e => bitOf ms j i
    | _, _ => true)
def okOne (ops : List Oper) (pl : List PK) (ms : List Nat) (n total : Nat) (j : Nat) (oj : Oper) (kj : PK) : Bool :=
  (oj.after.toList.all fun e => !Region.binds .any e || Nat.blt e.on j) && !isSel oj &&
  (match kj with
    | .f => oj.dst.isSome && ((List.range n).all fun l => match ops[l]?, oj.dst with
        | some ol, some d => !(namesOf ops ol).contains d || ((List.range j).all fun i => match pl[i]? with
            | some ki => !ki.ef || bitOf ms l i
            | none => true)
        | _, _ => true)
    | .r lo hi => (Nat.beq lo 0 || ((List.range j).any fun i => match pl[i]? with
          | some .e => bitOf ms j i && Nat.ble lo (cntE pl i + 1)
          | _ => false)) &&
        (Nat.ble total hi || ((List.range n).any fun l => match pl[l]? with
          | some kl => kl.ef && bitOf ms l j && Nat.ble (cntE pl l) hi
          | none => false))
    | _ => true) &&
  ((List.range j).all fun i => match ops[i]?, pl[i]? with
    | some oi, some ki => okPair ops ms i j oi oj ki kj
    | _, _ => true)
def okDraw (N : Nat) (ops : List Oper) (pl : List PK) : Bool :=
  let ms := masks ops []
  let n := ops.length
  let total := cntE pl n
  Nat.beq pl.length n && okDst N ops && (List.range n).all fun j => match ops[j]?, pl[j]? with
    | some oj, some kj => okOne ops pl ms n total j oj kj
    | _, _ => false

structure Okd (N : Nat) (ops : List Oper) (pl : List PK) : Prop where
  len : pl.length = ops.length
  dst : okDst N ops = true
  back : ∀ (j : Nat) o, ops[j]? = some o → ∀ e ∈ o.after.toList, Region.binds .any e = true → e.on < j
  sel : ∀ (j : Nat) o, ops[j]? = some o → isSel o = false
  w1 : ∀ (i j : Nat) oi oj d, i < j → ops[i]? = some oi → ops[j]? = some oj → oi.dst = some d → d ∈ namesOf ops oj → bitOf (masks ops []) j i = true
  w2 : ∀ (i j : Nat) oi oj d, i < j → ops[i]? = some oi → ops[j]? = some oj → oj.dst = some d → d ∈ namesOf ops oi → bitOf (masks ops []) j i = true
  w3 : ∀ (i j : Nat) oi oj d, i < j → ops[i]? = some oi → ops[j]? = some oj → oi.dst = some d → oj.dst ≠ some d
  e1 : ∀ (i j : Nat) ki, i < j → pl[i]? = some ki → ki.ef = true → pl[j]? = some .e → bitOf (masks ops []) j i = true
  f0 : ∀ (j : Nat) o, ops[j]? = some o → pl[j]? = some .f → ∃ d, o.dst = some d
  f1 : ∀ (i j l : Nat) ki oj ol d, pl[j]? = some .f → ops[j]? = some oj → oj.dst = some d → ops[l]? = some ol → d ∈ namesOf ops ol → i < j → pl[i]? = some ki → ki.ef = true → bitOf (masks ops []) l i = true
  lo : ∀ (j : Nat) lo hi, pl[j]? = some (.r lo hi) → lo = 0 ∨ ∃ i, i < j ∧ pl[i]? = some .e ∧ bitOf (masks ops []) j i = true ∧ lo ≤ cntE pl i + 1
  hi : ∀ (j : Nat) lo hi, pl[j]? = some (.r lo hi) → cntE pl ops.length ≤ hi ∨ ∃ l kl, pl[l]? = some kl ∧ kl.ef = true ∧ bitOf (masks ops []) l j = true ∧ cntE pl l ≤ hi

theorem okDraw_spec {N : Nat} {ops : List Oper} {pl : List PK} (h : okDraw N ops pl = true) : Okd N ops pl := by
  simp only [okDraw, Bool.and_eq_true, List.all_eq_true, List.mem_range] at h
  obtain ⟨⟨h1, h2⟩, h3⟩ := h
  have hlen := Nat.eq_of_beq_eq_true h1
  have one : ∀ (j : Nat) oj kj, ops[j]? = some oj → pl[j]? = some kj → okOne ops pl (masks ops []) ops.length (cntE pl ops.length) j oj kj = true := fun j oj kj ho hk => by
    have := h3 j (List.getElem?_eq_some_iff.1 ho).1
    rw [ho, hk] at this; exact this
  have hk : ∀ (j : Nat) oj, ops[j]? = some oj → ∃ kj, pl[j]? = some kj := fun j oj ho => by
    have := (List.getElem?_eq_some_iff.1 ho).1
    exact ⟨pl[j]'(by omega), by simp [hlen, this]⟩
  have ho : ∀ (j : Nat) kj, pl[j]? = some kj → ∃ oj, ops[j]? = some oj := fun j kj h => by
    have := (List.getElem?_eq_some_iff.1 h).1
    exact ⟨ops[j]'(by omega), by simp [← hlen, this]⟩
  have pair : ∀ (i j : Nat) oi oj ki kj, i < j → ops[i]? = some oi → ops[j]? = some oj → pl[i]? = some ki → pl[j]? = some kj → okPair ops (masks ops []) i j oi oj ki kj = true := fun i j oi oj ki kj hij hoi hoj hki hkj => by
    have := one j oj kj hoj hkj
    simp only [okOne, Bool.and_eq_true, List.all_eq_true, List.mem_range] at this
    have := this.2 i hij
    rw [hoi, hki] at this; exact this
  refine ⟨hlen, h2, fun j o hj e he hb => ?_, fun j o hj => ?_, fun i j oi oj d hij hi hj hd hm => ?_, fun i j oi oj d hij hi hj hd hm => ?_, fun i j oi oj d hij hi hj hd => ?_, fun i j ki hij hi hef hj => ?_, fun j o hj hk => ?_,
    fun i j l ki oj ol d hkj hoj hd hol hm hij hki hef => ?_, fun j lo hi hkj => ?_, fun j lo hi hkj => ?_⟩
  · obtain ⟨kj, hkj⟩ := hk j o hj
    have := one j o kj hj hkj
    simp only [okOne, Bool.and_eq_true, List.all_eq_true, Bool.or_eq_true, Bool.not_eq_true'] at this
    rcases this.1.1.1 e he with h | h
    · rw [hb] at h; cases h
    · rw [Nat.blt_eq] at h; exact h
  · obtain ⟨kj, hkj⟩ := hk j o hj
    have := one j o kj hj hkj
    simp only [okOne, Bool.and_eq_true, Bool.not_eq_true'] at this
    exact this.1.1.2
  · obtain ⟨ki, hki⟩ := hk i oi hi
    obtain ⟨kj, hkj⟩ := hk j oj hj
    have := pair i j oi oj ki kj hij hi hj hki hkj
    simp only [okPair, hd, Bool.and_eq_true, Bool.or_eq_true, Bool.not_eq_true', List.contains_eq_mem, decide_eq_false_iff_not] at this
    exact this.1.1.1.resolve_left (fun h => h hm)
  · obtain ⟨ki, hki⟩ := hk i oi hi
    obtain ⟨kj, hkj⟩ := hk j oj hj
    have := pair i j oi oj ki kj hij hi hj hki hkj
    simp only [okPair, hd, Bool.and_eq_true, Bool.or_eq_true, Bool.not_eq_true', List.contains_eq_mem, decide_eq_false_iff_not] at this
    exact this.1.2.resolve_left (fun h => h hm)
  · obtain ⟨ki, hki⟩ := hk i oi hi
    obtain ⟨kj, hkj⟩ := hk j oj hj
    have := pair i j oi oj ki kj hij hi hj hki hkj
    simp only [okPair, hd, Bool.and_eq_true, bne_iff_ne] at this
    exact this.1.1.2
  · obtain ⟨oi, hoi⟩ := ho i ki hi
    obtain ⟨oj, hoj⟩ := ho j _ hj
    have := pair i j oi oj ki .e hij hoi hoj hi hj
    simp only [okPair, hef, Bool.and_eq_true] at this
    exact this.2
  · have := one j o .f hj hk
    simp only [okOne, Bool.and_eq_true] at this
    exact Option.isSome_iff_exists.1 this.1.2.1
  · have := one j oj .f hoj hkj
    simp only [okOne, hd, Bool.and_eq_true, List.all_eq_true, List.mem_range] at this
    have := this.1.2.2 l (List.getElem?_eq_some_iff.1 hol).1
    rw [hol] at this
    simp only [Bool.or_eq_true, Bool.not_eq_true', List.contains_eq_mem, decide_eq_false_iff_not, List.all_eq_true, List.mem_range] at this
    have := (this.resolve_left (fun h => h hm)) i hij
    rw [hki] at this
    simp only [hef, Bool.or_eq_true, Bool.not_eq_true'] at this
    exact this.resolve_left (by simp)
  · obtain ⟨oj, hoj⟩ := ho j _ hkj
    have := one j oj _ hoj hkj
    simp only [okOne, Bool.and_eq_true, Bool.or_eq_true, List.any_eq_true, List.mem_range] at this
    rcases this.1.2.1 with h | ⟨i, hij, h⟩
    · exact .inl (Nat.eq_of_beq_eq_true h)
    · right
      split at h
      · rename_i hi'
        simp only [Bool.and_eq_true] at h
        exact ⟨i, hij, hi', h.1, Nat.le_of_ble_eq_true h.2⟩
      · cases h
  · obtain ⟨oj, hoj⟩ := ho j _ hkj
    have := one j oj _ hoj hkj
    simp only [okOne, Bool.and_eq_true, Bool.or_eq_true, List.any_eq_true, List.mem_range] at this
    rcases this.1.2.2 with h | ⟨l, hl, h⟩
    · exact .inl (Nat.le_of_ble_eq_true h)
    · right
      split at h
      · rename_i kl hkl
        simp only [Bool.and_eq_true] at h
        exact ⟨l, kl, hkl, h.1.1, h.1.2, Nat.le_of_ble_eq_true h.2⟩
      · cases h
end Go.Ai
end
