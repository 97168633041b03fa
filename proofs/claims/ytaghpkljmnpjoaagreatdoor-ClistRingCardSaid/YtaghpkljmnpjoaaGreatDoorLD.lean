/- ClistRing, for every input: rotating a list by its length restores it, and popping returns what was pushed. No condition. -/
import Derived.Test.YtaghpkljmnpjoaaGreatDoorLC
import Derived.Test.YtaghpkljmnpjoaaGreatDoorCG
namespace Go.Proofs.YtaghpkljmnpjoaaGreatDoor
theorem clistRing_card : Rows.ClistRingCardSaid :=
  Claim7.holds_tied_plain_at .later [] [.data, .data, .data, .sentinel, .sentinel] true (true, "ce6066c89d5f74bbfd58645bc2def736d058c09d18bc62badb94e13c3fdd493d") true
    clistRing_holds (fun _ h => by cases h) clistRing_wft (fun _ h => by cases h) clistRing_row_tie rfl ⟨rfl, rfl⟩ main_is rfl
    (fun f fn hf hfn => by
      obtain rfl : f = 4 := Option.some.inj (clistRing_at.symm.trans hf) |>.symm
      obtain rfl : fn = Tryz.f4 := (Option.some.inj (Tryz.func4.symm.trans hfn)).symm
      exact ⟨looks_is, fun j t ht => by
        rw [Tryz.params4] at ht
        have hm : t ∈ [23, 4] := by simpa using Array.mem_of_getElem? ht
        simp only [List.mem_cons, List.not_mem_nil, or_false] at hm
        rcases hm with rfl | rfl
        · exact stand_23
        · exact stand_4⟩)
    clistRing_goes
#print axioms clistRing_card
end Go.Proofs.YtaghpkljmnpjoaaGreatDoor
