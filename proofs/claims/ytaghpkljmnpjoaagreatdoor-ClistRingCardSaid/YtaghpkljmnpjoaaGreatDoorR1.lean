import Derived.Test.YtaghpkljmnpjoaaGreatDoorA1
set_option linter.unusedVariables false
set_option linter.unusedSimpArgs false
noncomputable section
namespace Go.Ai
def textsA : Nat → Nat → List AV
  | 0, _ => []
  | n + 1, i => .sym (.str [.var i]) :: textsA n (i + 1)
def bdsA : Nat → Nat → List (Nat × Nat × Nat)
  | 0, _ => []
  | n + 1, i => (i, 0, 9223372036854775807) :: bdsA n (i + 1)
noncomputable def ring (n : Nat) (left : Bool) : Bool := callF ctxA (runF ctxA tab 100000000) false 4 [.fslice 1 (textsA n 0) none, .bool left] ⟨bdsA n 0, []⟩ H0 (fun _ z _ => AV.beq z (.bool true))
/-- No text at all; more than twenty. -/
noncomputable def ring0 (left : Bool) : Bool := callF ctxA (runF ctxA tab 100000000) false 4 [.fslice 1 [] none, .bool left] ⟨[], []⟩ H0 (fun _ z _ => AV.beq z (.bool true))
noncomputable def ringV (left : Bool) : Bool := callF ctxA (runF ctxA tab 100000000) false 4 [.vslice 0, .bool left] ⟨[(0, 21, 9223372036854775807)], []⟩ H0 (fun _ z _ => AV.beq z (.bool true))
set_option maxRecDepth 100000
theorem ring_0_true : ring0 true = true := by kernel_rfl
theorem ring_0_false : ring0 false = true := by kernel_rfl
theorem ring_v_true : ringV true = true := by kernel_rfl
theorem ring_v_false : ringV false = true := by kernel_rfl
end Go.Ai
end
