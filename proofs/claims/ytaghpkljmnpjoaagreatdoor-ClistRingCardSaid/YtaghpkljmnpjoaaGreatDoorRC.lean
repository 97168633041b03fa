/- The law of the ring, computed by the kernel: 12 to 14 texts. -/
import Derived.Test.YtaghpkljmnpjoaaGreatDoorR1
namespace Go.Ai
set_option maxRecDepth 100000
theorem ring_12_true : ring 12 true = true := by kernel_rfl
theorem ring_12_false : ring 12 false = true := by kernel_rfl
theorem ring_13_true : ring 13 true = true := by kernel_rfl
theorem ring_13_false : ring 13 false = true := by kernel_rfl
theorem ring_14_true : ring 14 true = true := by kernel_rfl
theorem ring_14_false : ring 14 false = true := by kernel_rfl
end Go.Ai
