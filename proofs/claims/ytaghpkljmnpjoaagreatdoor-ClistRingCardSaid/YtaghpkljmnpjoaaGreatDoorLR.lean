/- THE LAW OF THE RING: rotating a list by its length restores it; popping gives what was pushed. -/
import Derived.Test.YtaghpkljmnpjoaaGreatDoorBR
import Derived.Test.YtaghpkljmnpjoaaGreatDoorRA
import Derived.Test.YtaghpkljmnpjoaaGreatDoorRB
import Derived.Test.YtaghpkljmnpjoaaGreatDoorRC
import Derived.Test.YtaghpkljmnpjoaaGreatDoorRD
import Derived.Test.YtaghpkljmnpjoaaGreatDoorRE
import Derived.Test.YtaghpkljmnpjoaaGreatDoorRF
open Go.Proofs Go.Proofs.YtaghpkljmnpjoaaGreatDoor Go.ChangeShapes Go.WideShapes Go.ChangeAt Go.RowKit
namespace Go.Ai
theorem ring_all : ∀ n, 1 ≤ n → n ≤ 20 → ∀ b, ring n b = true := by
  intro n h1 h2 b
  rcases (by omega : n = 1 ∨ n = 2 ∨ n = 3 ∨ n = 4 ∨ n = 5 ∨ n = 6 ∨ n = 7 ∨ n = 8 ∨ n = 9 ∨ n = 10 ∨ n = 11 ∨ n = 12 ∨ n = 13 ∨ n = 14 ∨ n = 15 ∨ n = 16 ∨ n = 17 ∨ n = 18 ∨ n = 19 ∨ n = 20) with rfl | rfl | rfl | rfl | rfl | rfl | rfl | rfl | rfl | rfl | rfl | rfl | rfl | rfl | rfl | rfl | rfl | rfl | rfl | rfl <;> cases b
  · exact ring_1_false
  · exact ring_1_true
  · exact ring_2_false
  · exact ring_2_true
  · exact ring_3_false
  · exact ring_3_true
  · exact ring_4_false
  · exact ring_4_true
  · exact ring_5_false
  · exact ring_5_true
  · exact ring_6_false
  · exact ring_6_true
  · exact ring_7_false
  · exact ring_7_true
  · exact ring_8_false
  · exact ring_8_true
  · exact ring_9_false
  · exact ring_9_true
  · exact ring_10_false
  · exact ring_10_true
  · exact ring_11_false
  · exact ring_11_true
  · exact ring_12_false
  · exact ring_12_true
  · exact ring_13_false
  · exact ring_13_true
  · exact ring_14_false
  · exact ring_14_true
  · exact ring_15_false
  · exact ring_15_true
  · exact ring_16_false
  · exact ring_16_true
  · exact ring_17_false
  · exact ring_17_true
  · exact ring_18_false
  · exact ring_18_true
  · exact ring_19_false
  · exact ring_19_true
  · exact ring_20_false
  · exact ring_20_true
theorem ring0_all (b : Bool) : ring0 b = true := by cases b; exact ring_0_false; exact ring_0_true
theorem ringV_all (b : Bool) : ringV b = true := by cases b; exact ring_v_false; exact ring_v_true

theorem textsA_len : ∀ {n i : Nat}, (textsA n i).length = n
  | 0, _ => rfl
  | n + 1, i => by simp [textsA, textsA_len (n := n)]
theorem textsA_get : ∀ {n i j : Nat} {a : AV}, (textsA n i)[j]? = some a → a = .sym (.str [.var (i + j)])
  | 0, i, j, a, h => by simp [textsA] at h
  | n + 1, i, 0, a, h => by simp [textsA] at h; exact h.symm
  | n + 1, i, j + 1, a, h => by
    simp only [textsA, List.getElem?_cons_succ] at h
    have := textsA_get h
    rw [this]; congr 4; omega
theorem bdsA_mem : ∀ {n i : Nat} {p : Nat × Nat × Nat}, p ∈ bdsA n i → p.2 = (0, 9223372036854775807)
  | 0, i, p, h => by cases h
  | n + 1, i, p, h => by
    rcases List.mem_cons.1 h with rfl | h
    · rfl
    · exact bdsA_mem h
theorem evalSp_one (ξ : Env) (i : Nat) : evalSp ξ [.var i] = ξ.str i := by
  have e : ∀ x : ByteArray, x ++ (⟨#[]⟩ : ByteArray) = x := fun x => ByteArray.append_empty
  exact e _

theorem flat_strings (g : Nat → ByteArray) : ∀ l : List Nat, (l.map fun i => Value.string (g i)).flatMap (fun w => w.cells.toList) = l.map fun i => Value.string (g i)
  | [] => rfl
  | x :: r => by
    rw [List.map_cons, List.flatMap_cons, flat_strings g r]
    rfl
/-- A computed call of the law: true; of old memory nothing turns. -/
theorem ring_end {ξ : Env} {ys : List AV} {x : X} (h : callF ctxA (runF ctxA tab 100000000) false 4 ys x H0 (fun _ z _ => AV.beq z (.bool true)) = true) (hx : x.holds ξ) {W : World} (hL : laidMetH Tryz.prog laid5 W)
    {cargs : List Value} (hV : Vs ξ (Φof W) (fun _ => ⟨0, 0, 0⟩) 0 cargs ys) :
    Calls Tryz.prog 4 cargs.toArray W (fun e W' => e = .returned (.bool true) ∧ Below W.heap.size W W') := by
  refine (AC.calls (Φ := Φof W) (μ := fun _ => ⟨0, 0, 0⟩) (AC.runF tab_eq ctxA_ok 100000000 h hx) (fun _ _ h => h) (glob_of_laid hL) hV).mono ?_
  rintro e W' ⟨v, z, H', Φ', μ', rfl, h2, ⟨x', _, h3⟩, h4, h5, h6, h7, h8⟩
  have := AV.beq_eq h3
  subst this
  cases h2
  exact ⟨rfl, h4, h5, h6, h7, h8⟩

theorem ring_calls {W : World} (hL : laidMetH Tryz.prog laid5 W) {a0 : Option Addr} {len cap : Nat} {left : Bool} {H : Type} {enc : TypeId × Value → H} {d : DataW H} {ps : List MemPlace}
    (h0 : DataW.Trod enc Tryz.prog W 0 (fun _ => true) true 23 (.slice a0 len cap) d ps) :
    Calls Tryz.prog 4 #[.slice a0 len cap, .bool left] W (fun e W' => e = .returned (.bool true) ∧ Below W.heap.size W W') := by
  obtain ⟨fuel, hf⟩ := h0
  have vleft : ∀ {ξ : Env} {Φ : Nat → Option Obj} {μ : Nat → Pl} {v : Value} {a : AV}, V ξ Φ μ 0 v a → Vs ξ Φ μ 0 [v, .bool left] [a, .bool left] := fun h => Vs.cons h (Vs.cons (.bool _ _) Vs.nil)
  have none0 : ∀ ξ : Env, (⟨[], []⟩ : X).holds ξ := fun ξ => ⟨fun p hp => by simp at hp, fun p hp => by simp at hp⟩
  have key : ∀ (ξ : Env) (a : AV) (x : X), callF ctxA (runF ctxA tab 100000000) false 4 [a, .bool left] x H0 (fun _ z _ => AV.beq z (.bool true)) = true → x.holds ξ → V ξ (Φof W) (fun _ => ⟨0, 0, 0⟩) 0 (.slice a0 len cap) a →
      Calls Tryz.prog 4 #[.slice a0 len cap, .bool left] W (fun e W' => e = .returned (.bool true) ∧ Below W.heap.size W W') := fun ξ a x h hx hV => ring_end h hx hL (vleft hV)
  by_cases hl0 : len = 0
  · subst hl0
    exact key ⟨fun _ => ByteArray.empty⟩ _ _ (ring0_all left) (none0 _) (.fnil _ _ _ _ _ (fun k hk => by cases hk))
  rcases open_strings Tryz.underlying23 Tryz.underlying9 (by kernel_rfl) hf with ⟨hcs, hx⟩ | ⟨a, len', cap', ss, hcs, _, hl, hm, hz, hx, hcell, hsz⟩
  · simp [Value.cells] at hcs
    exact absurd hcs.2.1 hl0
  simp [Value.cells] at hcs
  obtain ⟨rfl, rfl, rfl⟩ := hcs
  simp only [if_true] at hz
  by_cases h20 : len ≤ 20
  · obtain ⟨b, off, spot⟩ := a
    have hc0 := hcell 0 (by omega)
    have hspot : spot = none := by simpa [Addr.add] using World.cell?_spot hc0
    subst hspot
    let ξ : Env := ⟨fun i => ss.getD i ByteArray.empty⟩
    obtain ⟨c, t, fz, hblk⟩ : ∃ c t fz, W.heap[b]? = some (.cells c t fz) := by
      rw [add_off] at hc0
      simp only [World.cell?] at hc0
      split at hc0
      · rename_i c t fz hh; exact ⟨c, t, fz, hh⟩
      · cases hc0
    have hat : ∀ i, i < ss.length → c[off + i]? = some (.string (ss.getD i ByteArray.empty)) := fun i hi => by
      have h1 := hcell i hi
      rw [add_off] at h1
      simp only [World.cell?, hblk] at h1
      simpa using h1
    have hlt := textsA_len (n := len) (i := 0)
    have hV : V ξ (Φof W) (fun _ => ⟨0, 0, 0⟩) 0 (.slice (some ⟨b, off, none⟩) (textsA len 0).length cap) (.fslice 1 (textsA len 0) none) := by
      refine .fslice 0 b off cap 1 none c t fz ((List.range len).map fun i => .string (ss.getD i ByteArray.empty)) (textsA len 0) (fun k hk => by cases hk) (by rw [hlt]; exact hl) hblk (by simp [hlt]) ?_ ?_ ?_
      · intro w hw
        obtain ⟨i, _, rfl⟩ := List.mem_map.1 hw
        rfl
      · intro j v hj
        have e : ((List.range len).map fun i => Value.string (ss.getD i ByteArray.empty)).flatMap (fun w => w.cells.toList) = (List.range len).map fun i => Value.string (ss.getD i ByteArray.empty) := flat_strings _ _
        rw [e, List.getElem?_map] at hj
        cases hq : (List.range len)[j]? with
        | none => rw [hq] at hj; cases hj
        | some q =>
          rw [hq] at hj
          have hjl : j < len := by have := (List.getElem?_eq_some_iff.1 hq).1; simpa using this
          rw [List.getElem?_range hjl] at hq
          cases hq; cases hj
          exact hat j (by omega)
      · intro j w a' hw ha
        have := textsA_get ha
        subst this
        rw [List.getElem?_map] at hw
        cases hq : (List.range len)[j]? with
        | none => rw [hq] at hw; cases hw
        | some q =>
          rw [hq] at hw
          have hjl : j < len := by have := (List.getElem?_eq_some_iff.1 hq).1; simpa using this
          rw [List.getElem?_range hjl] at hq
          cases hq; cases hw
          exact .sym _ _ _ (by simp only [SV.eval, evalSp_one, Nat.zero_add]; rfl)
    rw [hlt] at hV
    refine key ξ _ ⟨bdsA len 0, []⟩ (ring_all len (by omega) h20 left) ⟨fun p hp => ?_, fun p hp => by simp at hp⟩ hV
    rw [bdsA_mem hp]
    refine ⟨Nat.zero_le _, ?_⟩
    show (ss.getD p.1 ByteArray.empty).size ≤ 9223372036854775807
    rw [List.getD_eq_getElem?_getD]
    cases hq : ss[p.1]? with
    | none => simp
    | some s => exact hsz s (List.mem_of_getElem? hq)
  · refine key ⟨fun _ => ⟨Array.replicate len 0⟩⟩ (.vslice 0) _ (ringV_all left) ⟨fun p hp => ?_, fun p hp => by simp at hp⟩ ?_
    · simp only [List.mem_singleton] at hp
      subst hp
      have hm' : cap ≤ 9223372036854775807 := hm
      simp [ByteArray.size]
      omega
    · have := V.vslice (ξ := ⟨fun _ => ⟨Array.replicate len 0⟩⟩) (Φ := Φof W) (μ := fun _ => ⟨0, 0, 0⟩) 0 0 (some a) cap
      simpa [ByteArray.size] using this
end Go.Ai
