/- The law of the ring, computed by the kernel: 8 to 11 texts. -/
import Derived.Test.YtaghpkljmnpjoaaGreatDoorR1
namespace Go.Ai
set_option maxRecDepth 100000
theorem ring_8_true : ring 8 true = true := by kernel_rfl
theorem ring_8_false : ring 8 false = true := by kernel_rfl
theorem ring_9_true : ring 9 true = true := by kernel_rfl
theorem ring_9_false : ring 9 false = true := by kernel_rfl
theorem ring_10_true : ring 10 true = true := by kernel_rfl
theorem ring_10_false : ring 10 false = true := by kernel_rfl
theorem ring_11_true : ring 11 true = true := by kernel_rfl
theorem ring_11_false : ring 11 false = true := by kernel_rfl
end Go.Ai
