/- The closed facts of the row of ClistRing, one by one. -/
import Derived.Test.YtaghpkljmnpjoaaGreatDoorCards
import Derived.Test.YtaghpkljmnpjoaaGreatDoorTie
import Derived.JoinedOf
import Derived.ProofKit
import Derived.KernelRfl
namespace Go.Proofs.YtaghpkljmnpjoaaGreatDoor
set_option maxRecDepth 100000
theorem and_t {a b : Bool} (ha : a = true) (hb : b = true) : (a && b) = true := by rw [ha, hb]; rfl
theorem clistRing_k1 : (Rows.clistRingRow.wf (OpenSpec.ofChange Rows.clistRingSpec)) = true := by kernel_rfl
theorem clistRing_k2 : (laidOutB Tryz.prog) = true := by kernel_rfl
theorem clistRing_k3 : (mapsRowed Tryz.prog) = true := by kernel_rfl
theorem clistRing_k4 : (Tryz.f4.params.all (Tryz.prog.readableRec ·)) = true := by kernel_rfl
theorem clistRing_k5 : (namedTie Tryz.prog Rows.clistRingRow.named Rows.clistRingSpec.vars) = true := by kernel_rfl
theorem clistRing_k6 : ((Rows.clistRingRow.stops == [])) = true := by kernel_rfl
theorem clistRing_k7 : ((Tryz.prog.stops == [])) = true := by kernel_rfl
theorem clistRing_k8 : ((Rows.clistRingRow.knobs == [])) = true := by kernel_rfl
theorem clistRing_k9 : ((Tryz.prog.stopKnobs == [])) = true := by kernel_rfl
theorem clistRing_k10 : ((Rows.clistRingRow.inPlace == Tryz.prog.inPlace 4)) = true := by kernel_rfl
theorem clistRing_k11 : ((Rows.clistRingRow.unfollowed == Tryz.prog.unfollowed 4)) = true := by kernel_rfl
theorem clistRing_k12 : ((Rows.clistRingRow.recurses == Tryz.prog.recurses 4)) = true := by kernel_rfl
theorem clistRing_k13 : ((Rows.clistRingRow.named == Tryz.prog.varsNamed 4)) = true := by kernel_rfl
theorem clistRing_k14 : ((Rows.clistRingRow.maps == (Tryz.f4.params.toList ++ Rows.clistRingSpec.plain.varTypes Tryz.prog).any (Tryz.prog.mapsRec ·))) = true := by kernel_rfl
theorem clistRing_k15 : ((Rows.clistRingRow.ifaces == (Tryz.f4.params.toList ++ Rows.clistRingSpec.plain.varTypes Tryz.prog).any (Tryz.prog.ifacesRec ·))) = true := by kernel_rfl
theorem clistRing_k16 : ((Rows.clistRingRow.mapsOut == Tryz.prog.mapsAmong Tryz.f4.resultTypes.toList)) = true := by kernel_rfl
theorem clistRing_k17 : ((Rows.clistRingRow.loops == (Tryz.f4.params.toList ++ Rows.clistRingSpec.plain.varTypes Tryz.prog).any (Tryz.prog.loopsFrom ·))) = true := by kernel_rfl
theorem clistRing_k18 : ((Rows.clistRingRow.wideKeys == (Tryz.f4.params.toList ++ Rows.clistRingSpec.plain.varTypes Tryz.prog ++ Tryz.f4.resultTypes.toList).any (Tryz.prog.wideKeysFrom ·))) = true := by kernel_rfl
theorem clistRing_k19 : (Rows.clistRingSpec.vars.all (Tryz.prog.varReadable ·)) = true := by kernel_rfl
theorem clistRing_k20 : (Tryz.f4.resultTypes.all (fun t => Tryz.prog.readableRec t && decide (t < Tryz.prog.types.size))) = true := by kernel_rfl
theorem clistRing_k21 : ((Rows.clistRingRow.ifacesOut == Tryz.f4.resultTypes.toList.any (Tryz.prog.ifacesRec ·))) = true := by kernel_rfl
theorem clistRing_k22 : ((Rows.clistRingRow.loopsOut == Tryz.f4.resultTypes.toList.any (Tryz.prog.loopsFrom ·))) = true := by kernel_rfl
theorem clistRing_k23 : ((Rows.clistRingRow.plainKeys == Tryz.prog.plainKeys)) = true := by kernel_rfl
theorem clistRing_k24 : (Rows.clistRingRow.shortTexts.isNone) = true := by kernel_rfl
theorem clistRing_k25 : (Tryz.prog.stopsHeard) = true := by kernel_rfl
theorem clistRing_k26 : (Tryz.prog.mayEnter) = true := by kernel_rfl
theorem clistRing_k27 : ((Rows.clistRingRow.lifted == Tryz.prog.liftsFinal)) = true := by kernel_rfl
theorem clistRing_k28 : ((Tryz.prog.make == some Rows.clistRingRow.make)) = true := by kernel_rfl
theorem clistRing_k29 : ((Rows.clistRingRow.kinds == (if Rows.clistRingRow.domain.isEmpty then [] else Tryz.f4.params.toList.map fun t => match Tryz.prog.underlying t with | some (.int k) => some k | _ => none))) = true := by kernel_rfl
theorem clistRing_k30 : ((Rows.clistRingRow.pinned == Rows.clistRingRow.pinnedBy)) = true := by kernel_rfl
theorem clistRing_k31 : ((Rows.clistRingRow.veiled == (Tryz.f4.params.toList ++ Rows.clistRingSpec.plain.varTypes Tryz.prog ++ Tryz.f4.resultTypes.toList).any (Tryz.prog.veiledRec ·))) = true := by kernel_rfl
theorem clistRing_k32 : (Rows.clistRingRow.veiledFits Tryz.prog Tryz.f4.params.toList (Tryz.f4.params.toList ++ Rows.clistRingSpec.plain.varTypes Tryz.prog ++ Tryz.f4.resultTypes.toList)) = true := by kernel_rfl
theorem clistRing_closed : joinedFacts Tryz.prog 4 Tryz.f4 Rows.clistRingSpec Rows.clistRingRow = true := by
  unfold joinedFacts
  exact and_t (and_t (and_t (and_t (and_t (and_t (and_t (and_t (and_t (and_t (and_t (and_t (and_t (and_t (and_t (and_t (and_t (and_t (and_t (and_t (and_t (and_t (and_t (and_t (and_t (and_t (and_t (and_t (and_t (and_t (and_t clistRing_k1 clistRing_k2) clistRing_k3) clistRing_k4) clistRing_k5) clistRing_k6) clistRing_k7) clistRing_k8) clistRing_k9) clistRing_k10) clistRing_k11) clistRing_k12) clistRing_k13) clistRing_k14) clistRing_k15) clistRing_k16) clistRing_k17) clistRing_k18) clistRing_k19) clistRing_k20) clistRing_k21) clistRing_k22) clistRing_k23) clistRing_k24) clistRing_k25) clistRing_k26) clistRing_k27) clistRing_k28) clistRing_k29) clistRing_k30) clistRing_k31) clistRing_k32
theorem clistRing_named : Tryz.prog.funcNamed Rows.clistRingRow.func = some 4 := by kernel_rfl
theorem clistRing_inst : Tryz.f4.isInstance Tryz.prog Rows.clistRingRow.origin Rows.clistRingRow.targs := of_decide_eq_true (by kernel_rfl)
theorem clistRing_wrap : Tryz.f4.isWrapper Tryz.prog Rows.clistRingRow.wrapper Rows.clistRingRow.mainSum := by unfold Func.isWrapper; first | (rw [if_pos (by decide +kernel)]; kernel_rfl) | (rw [if_neg (by decide +kernel)]; exact ⟨rfl, rfl⟩)
end Go.Proofs.YtaghpkljmnpjoaaGreatDoor
