/- The closed facts of the card of ClistRing, one by one. -/
import Derived.Test.YtaghpkljmnpjoaaGreatDoorCards
import Derived.Test.YtaghpkljmnpjoaaGreatDoorTie
import Derived.JoinedOf
import Derived.ProofKit
import Derived.SevenTiedAt
import Derived.KernelRfl
namespace Go.Proofs.YtaghpkljmnpjoaaGreatDoor
set_option maxRecDepth 100000
theorem clistRing_wft : Rows.clistRingRow.wfByText (OpenSpec.ofChange Rows.clistRingSpec) = true := by kernel_rfl
theorem main_is : Tryz.prog.mainIs = some (true, "ce6066c89d5f74bbfd58645bc2def736d058c09d18bc62badb94e13c3fdd493d".toList) := by kernel_rfl
theorem looks_is : true = Tryz.prog.looks [] := by kernel_rfl
theorem stand_4 : Tryz.prog.wantsStandIn 4 = false := by kernel_rfl
theorem stand_23 : Tryz.prog.wantsStandIn 23 = false := by kernel_rfl
theorem clistRing_goes : false = Rows.clistRingRow.goesBy Tryz.prog := by kernel_rfl
theorem clistRing_at : Tryz.prog.funcNamed "pentimento/pentimentolaw23.ClistRing" = some 4 := by kernel_rfl
end Go.Proofs.YtaghpkljmnpjoaaGreatDoor
