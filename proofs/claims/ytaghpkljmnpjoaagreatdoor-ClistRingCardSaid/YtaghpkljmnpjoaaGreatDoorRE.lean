/- The law of the ring, computed by the kernel: 17 to 18 texts. -/
import Derived.Test.YtaghpkljmnpjoaaGreatDoorR1
namespace Go.Ai
set_option maxRecDepth 100000
theorem ring_17_true : ring 17 true = true := by kernel_rfl
theorem ring_17_false : ring 17 false = true := by kernel_rfl
theorem ring_18_true : ring 18 true = true := by kernel_rfl
theorem ring_18_false : ring 18 false = true := by kernel_rfl
end Go.Ai
