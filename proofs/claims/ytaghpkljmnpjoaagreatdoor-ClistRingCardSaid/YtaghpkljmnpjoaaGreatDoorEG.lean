/- THE ABSTRACT INTERPRETER, PART 21: regions that draw their order: each step, the whole. -/
import Derived.Test.YtaghpkljmnpjoaaGreatDoorEF
set_option linter.unusedVariables false
set_option linter.unusedSimpArgs false
noncomputable section
namespace Go.Ai
variable {ξ : Env}

theorem wantA_slot {ops : Array Oper} {F : AF} {o : Oper} {b : Bool} {a : Act} {Φ : Nat → Option Obj} {μ : Nat → Pl} {n : Nat} (h : ∀ t ∈ namesOf ops.toList o, ∀ x, lk F.t t = some x → ∃ v, a.tmps[t]? = some v ∧ V ξ Φ μ n v x)
    (hw : wantA ops.toList F o = some b) : Region.wanted o (yielded ops a.tmps) = b := by
  unfold wantA at hw
  unfold Region.wanted
  split at hw
  · rename_i hg
    rw [hg]; cases hw; rfl
  · rename_i j want hg
    rw [hg]
    simp only
    split at hw
    · rename_i g hj
      have hj' : ops[j]? = some g := by simpa using hj
      split at hw
      · rename_i t ht
        have hm : t ∈ namesOf ops.toList o := by
          simp only [namesOf, hg, hj, ht]
          exact List.mem_append_right _ (by simp)
        split at hw
        · rename_i b' hl
          cases hw
          obtain ⟨v, h1, h2⟩ := h t hm _ hl
          cases h2
          simp [yielded, hj', ht, h1]
        · rename_i hl
          cases hw
          obtain ⟨v, h1, h2⟩ := h t hm _ hl
          cases h2
          simp [yielded, hj', ht, h1]
        · cases hw
      · cases hw
    · cases hw

section
variable {P : Program} {N : Nat} {ops : Array Oper} {pl : List PK} {C : Course} {e : Entry}

theorem put_get {a : Act} {o : Oper} {v : Value} {t : Nat} {u : Value} (h : a.tmps[t]? = some u) (hne : o.dst ≠ some t) : (a.put o.dst v).tmps[t]? = some u := by
  cases hd : o.dst with
  | none => exact h
  | some d =>
    have : d ≠ t := fun e => hne (by rw [hd, e])
    simp only [Act.put]
    rw [Array.getElem?_setIfInBounds_ne this]; exact h
theorem put_same {a : Act} {d : Nat} {v : Value} (h : d < a.tmps.size) : (a.put (some d) v).tmps[d]? = some v := by
  simp only [Act.put]
  exact Array.getElem?_setIfInBounds_self_of_lt h
theorem put_size {a : Act} {d : Option Tmp} {v : Value} : (a.put d v).tmps.size = a.tmps.size := by cases d <;> simp [Act.put]
theorem put_def {a : Act} {d : Option Tmp} {v : Value} : (a.put d v).defers = a.defers := by cases d <;> rfl

/-- What a ready operation sees. -/
theorem Inv.sees (hR : Reg ξ P N ops.toList pl C) {L : Nat → Prop} {a : Act} {w : World} {k : Nat} {Φ : Nat → Option Obj} {μ : Nat → Pl} {fb : Nat → Nat} (hI : Inv ξ P N ops.toList pl C e L a w k Φ μ fb) (hT : Top pl C L k) {i : Nat} {o : Oper} {q : PK}
    (ho : ops.toList[i]? = some o) (hq : pl[i]? = some q) (hun : ¬ L i) (hall : ∀ e ∈ o.after.toList, Region.binds .any e = true → L e.on) :
    ∀ t ∈ namesOf ops.toList o, ∀ x, lk (C.F i).t t = some x → ∃ v, a.tmps[t]? = some v ∧ V ξ Φ μ (C.H k).next v x := by
  intro t ht x hx
  have hlt := hR.lt hq
  have hms : ∃ m, (masks ops.toList [])[i]? = some m := by
    have := (masks_spec (l := ops.toList) (acc := [])).1
    have hi : i < (masks ops.toList []).length := by simp at this; simp at hlt; omega
    exact ⟨_, List.getElem?_eq_getElem hi⟩
  obtain ⟨m, hm⟩ := hms
  have bit : ∀ j, bitOf (masks ops.toList []) i j = true → L j := fun j hj => by
    simp only [bitOf, List.getD_eq_getElem?_getD, hm, Option.getD_some] at hj
    exact mask_in hI.shut i o m j ho hm hall hj
  rcases hR.slot (Nat.le_of_lt hlt) hx with ⟨j, oj, hj, hoj, hdj, rfl⟩ | ⟨h0, hno⟩
  · have hLj := bit j (hR.ok.w1 j i oj o t hj hoj ho hdj ht)
    refine hI.new j oj t hoj hLj hdj (fun hf _ => ?_)
    rcases Nat.lt_or_ge (C.s j) k with h' | h'
    · exact h'
    · exfalso
      have hk : k < C.s ops.toList.length := by
        have := hR.strict hf rfl (hR.lt hf) (Nat.le_refl _)
        omega
      obtain ⟨i0, q0, h1, h2, h3, h4⟩ := hR.hit (Nat.le_refl _) hk
      refine hT i0 q0 h2 h3 h4 ?_
      rcases Nat.lt_trichotomy i0 j with h | h | h
      · exact bit i0 (hR.ok.f1 i0 j i q0 oj o t hf hoj hdj ho ht h h2 h3)
      · rw [h]; exact hLj
      · have := hR.strict hf rfl h (Nat.le_of_lt (hR.lt h2)); omega
  · refine hI.old t x h0 (fun i' o' ho' hL' hd' => ?_)
    rcases Nat.lt_trichotomy i' i with h | h | h
    · exact hno i' o' h ho' hd'
    · exact hun (h ▸ hL')
    · have hb := hR.ok.w2 i i' o o' t h ho ho' hd' ht
      have hms' : ∃ m, (masks ops.toList [])[i']? = some m := by
        have := (masks_spec (l := ops.toList) (acc := [])).1
        have h1 := (List.getElem?_eq_some_iff.1 ho').1
        have hi : i' < (masks ops.toList []).length := by simp at this; simp at h1; omega
        exact ⟨_, List.getElem?_eq_getElem hi⟩
      obtain ⟨m', hm'⟩ := hms'
      simp only [bitOf, List.getD_eq_getElem?_getD, hm', Option.getD_some] at hb
      exact hun (mask_in hI.shut i' o' m' i ho' hm' (hI.shut i' o' ho' hL') hb)

/-- Where a ready operation with an effect stands. -/
theorem Inv.stage (hR : Reg ξ P N ops.toList pl C) {L : Nat → Prop} {a : Act} {w : World} {k : Nat} {Φ : Nat → Option Obj} {μ : Nat → Pl} {fb : Nat → Nat} (hI : Inv ξ P N ops.toList pl C e L a w k Φ μ fb) (hT : Top pl C L k) {i : Nat} {o : Oper}
    (ho : ops.toList[i]? = some o) (hq : pl[i]? = some .e) (hun : ¬ L i) (bit : ∀ j, bitOf (masks ops.toList []) i j = true → L j) : C.s i = k := by
  rcases Nat.lt_trichotomy (C.s i) k with h | h | h
  · exact absurd (hI.below i .e hq rfl h) hun
  · exact h
  · exfalso
    have hk : k < C.s ops.toList.length := by
      have := hR.strict hq rfl (hR.lt hq) (Nat.le_refl _)
      omega
    obtain ⟨i0, q0, h1, h2, h3, h4⟩ := hR.hit (Nat.le_refl _) hk
    refine hT i0 q0 h2 h3 h4 (bit i0 (hR.ok.e1 i0 i q0 ?_ h2 h3 hq))
    rcases Nat.lt_trichotomy i0 i with h' | h' | h'
    · exact h'
    · subst h'; omega
    · have := hR.strict hq rfl h' (Nat.le_of_lt (hR.lt h2)); omega

/-- One more operation is listed. -/
theorem Inv.list (hR : Reg ξ P N ops.toList pl C) {L : Nat → Prop} {a : Act} {w w' : World} {k k' : Nat} {Φ Φ' : Nat → Option Obj} {μ μ' : Nat → Pl} {fb : Nat → Nat} (hI : Inv ξ P N ops.toList pl C e L a w k Φ μ fb) {i : Nat} {o : Oper} {q : PK} {v : Value}
    (ho : ops.toList[i]? = some o) (hq : pl[i]? = some q) (hun : ¬ L i) (hall : ∀ e ∈ o.after.toList, Region.binds .any e = true → L e.on)
    (hk : (q.ef = true ∧ q ≠ .f ∧ k' = k + 1 ∧ C.s i = k) ∨ (q ≠ .e ∧ k' = k))
    (hR' : R ξ Φ' μ' (C.H k') w') (hT' : T Φ μ (C.H k) w Φ' μ' (C.H k') w') (hv : (q = .f → C.w i = true → C.s i < k') → V ξ Φ' μ' (C.H k').next v (C.z i))
    (hE : ∀ b, q = .f → C.w i = true → k' ≤ C.s i → o.dst = some b → Early ξ C e (a.put o.dst v) w' k' Φ' μ' i b w.heap.size) :
    ∃ fb', Inv ξ P N ops.toList pl C e (fun j => j = i ∨ L j) (a.put o.dst v) w' k' Φ' μ' fb' := by
  have hdn : ∀ d, o.dst = some d → d < a.tmps.size := fun d hd => by
    rw [hI.n]; exact okDst_spec hR.ok.dst o (List.mem_of_getElem? ho) d hd
  have hkk : k ≤ k' := by rcases hk with ⟨_, _, h, _⟩ | ⟨_, h⟩ <;> omega
  have hkb : k' ≤ C.s ops.toList.length := by
    rcases hk with ⟨h1, _, h2, h3⟩ | ⟨_, h⟩
    · have := hR.strict hq h1 (hR.lt hq) (Nat.le_refl _); omega
    · rw [h]; exact hI.bound
  -- rows made ahead stay
  have hstay : ∀ (j : Nat) t, o.dst ≠ some t → Early ξ C e a w k Φ μ j t (fb j) → Early ξ C e (a.put o.dst v) w' k' Φ' μ' j t (fb j) ∧ fb j < w.heap.size := fun j t hne hE => by
    obtain ⟨⟨cs, sh, vs, ty, e1, e2, e3, e4, e5, e6⟩, e7, e8, e9⟩ := hE
    have hlt : fb j < w.heap.size := (Array.getElem?_eq_some_iff.1 e5).1
    refine ⟨⟨⟨cs, sh, vs, ty, e1, e2, e3, put_get e4 hne, ?_, e6.mono hT'.phi hT'.next hT'.mu⟩, e7, ?_, fun x ob hx he => ?_⟩, hlt⟩
    · rw [hT'.same _ hlt e9]; exact e5
    · cases hq : Φ' (fb j) with
      | none => rfl
      | some ob =>
        exfalso
        rcases hT'.kno _ _ hq with h | ⟨x, p, hx, h⟩ | h
        · rw [e8] at h; cases h
        · exact e9 x p hx h.symm
        · omega
    · rcases hT'.own x ob hx with ⟨y, p, hy, h⟩ | h
      · exact e9 y p hy (h ▸ he)
      · omega
  let fb' : Nat → Nat := fun j => if j = i then w.heap.size else fb j
  refine ⟨fb', fun j oj hoj hL e he hb => ?_, fun j qj hqj hef hs => ?_, fun j hqj hs hL => ?_, hkb, fun t x hx hno => ?_, fun j oj t hoj hL hd hc => ?_, fun j oj t hf hoj hw hL hs hd => ?_, fun x y hx hy hLx hLy hne hsx hsy hwx hwy => ?_,
    by rw [put_def]; exact hI.dr.mono hT'.phi hT'.next hT'.mu, hR', hI.t.trans hT', by rw [put_size]; exact hI.n⟩
  · rcases hL with rfl | hL
    · rw [ho] at hoj; cases hoj
      exact .inr (hall e he hb)
    · exact .inr (hI.shut j oj hoj hL e he hb)
  · rcases Nat.lt_or_ge (C.s j) k with h | h
    · exact .inr (hI.below j qj hqj hef h)
    · rcases hk with ⟨h1, _, h2, h3⟩ | ⟨_, h2⟩
      · exact .inl (hR.inj hqj hq hef h1 (by omega))
      · omega
  · rcases hL with rfl | hL
    · rw [hq] at hqj; cases hqj
      rcases hk with ⟨_, _, h2, h3⟩ | ⟨h1, _⟩
      · omega
      · exact h1 rfl
    · exact hI.above j hqj (by omega) hL
  · have hne : o.dst ≠ some t := fun hd => hno i o ho (.inl rfl) hd
    obtain ⟨u, h1, h2⟩ := hI.old t x hx (fun j oj hoj hL => hno j oj hoj (.inr hL))
    exact ⟨u, put_get h1 hne, h2.mono hT'.phi hT'.next hT'.mu⟩
  · rcases hL with rfl | hL
    · rw [ho] at hoj; cases hoj
      rw [hd]
      exact ⟨v, put_same (hdn t hd), hv (fun h1 h2 => hc (h1 ▸ hq) h2)⟩
    · have hne : o.dst ≠ some t := fun hd' => by
        rcases Nat.lt_trichotomy i j with h | h | h
        · exact hR.ok.w3 i j o oj t h ho hoj hd' hd
        · exact hun (h ▸ hL)
        · exact hR.ok.w3 j i oj o t h hoj ho hd hd'
      by_cases hcase : pl[j]? = some .f ∧ C.w j = true ∧ k ≤ C.s j
      · -- was early, is no longer: only if the stage went on to it
        exfalso
        obtain ⟨h1, h2, h3⟩ := hcase
        have := hc h1 h2
        rcases hk with ⟨h4, h5, h6, h7⟩ | ⟨_, h6⟩
        · have hji := hR.inj h1 hq rfl h4 (by omega)
          subst hji
          exact hun hL
        · omega
      · obtain ⟨u, h1, h2⟩ := hI.new j oj t hoj hL hd (fun h1 h2 => by
          rcases Nat.lt_or_ge (C.s j) k with h | h
          · exact h
          · exact absurd ⟨h1, h2, h⟩ hcase)
        exact ⟨u, put_get h1 hne, h2.mono hT'.phi hT'.next hT'.mu⟩
  · rcases hL with rfl | hL
    · rw [ho] at hoj; cases hoj
      rw [hq] at hf; cases hf
      simp only [fb', if_pos rfl]
      exact hE t rfl hw hs hd
    · have hji : j ≠ i := fun h => hun (h ▸ hL)
      have hne : o.dst ≠ some t := fun hd' => by
        rcases Nat.lt_trichotomy i j with h | h | h
        · exact hR.ok.w3 i j o oj t h ho hoj hd' hd
        · exact hji h.symm
        · exact hR.ok.w3 j i oj o t h hoj ho hd hd'
      simp only [fb', if_neg hji]
      exact (hstay j t hne (hI.early j oj t hf hoj hw hL (by omega) hd)).1
  · have far : ∀ j, pl[j]? = some .f → L j → k' ≤ C.s j → C.w j = true → fb j < w.heap.size := fun j hj hL hs hw => by
      obtain ⟨oj, hoj⟩ := hR.kd' hj
      obtain ⟨d, hd⟩ := hR.ok.f0 j oj hoj hj
      obtain ⟨⟨cs, sh, vs, ty, e1, e2, e3, e4, e5, e6⟩, _⟩ := hI.early j oj d hj hoj hw hL (by omega) hd
      exact (Array.getElem?_eq_some_iff.1 e5).1
    simp only [fb']
    rcases hLx with rfl | hLx <;> rcases hLy with rfl | hLy
    · exact absurd rfl hne
    · rw [if_pos rfl, if_neg (Ne.symm hne)]
      exact (Nat.ne_of_lt (far y hy hLy hsy hwy)).symm
    · rw [if_pos rfl, if_neg hne]
      exact Nat.ne_of_lt (far x hx hLx hsx hwx)
    · rw [if_neg (fun h : x = i => hun (h ▸ hLx)), if_neg (fun h : y = i => hun (h ▸ hLy))]
      exact hI.apart x y hx hy hLx hLy hne (by omega) (by omega) hwx hwy
end
end Go.Ai
end
