/- The law of the ring, computed by the kernel: 15 to 16 texts. -/
import Derived.Test.YtaghpkljmnpjoaaGreatDoorR1
namespace Go.Ai
set_option maxRecDepth 100000
theorem ring_15_true : ring 15 true = true := by kernel_rfl
theorem ring_15_false : ring 15 false = true := by kernel_rfl
theorem ring_16_true : ring 16 true = true := by kernel_rfl
theorem ring_16_false : ring 16 false = true := by kernel_rfl
end Go.Ai
