/- The law of the ring, computed by the kernel: 19 to 20 texts. -/
import Derived.Test.YtaghpkljmnpjoaaGreatDoorR1
namespace Go.Ai
set_option maxRecDepth 100000
theorem ring_19_true : ring 19 true = true := by kernel_rfl
theorem ring_19_false : ring 19 false = true := by kernel_rfl
theorem ring_20_true : ring 20 true = true := by kernel_rfl
theorem ring_20_false : ring 20 false = true := by kernel_rfl
end Go.Ai
