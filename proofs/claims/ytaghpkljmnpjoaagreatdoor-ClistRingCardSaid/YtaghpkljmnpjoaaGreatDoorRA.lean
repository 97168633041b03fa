/- The law of the ring, computed by the kernel: 1 to 7 texts. -/
import Derived.Test.YtaghpkljmnpjoaaGreatDoorR1
namespace Go.Ai
set_option maxRecDepth 100000
theorem ring_1_true : ring 1 true = true := by kernel_rfl
theorem ring_1_false : ring 1 false = true := by kernel_rfl
theorem ring_2_true : ring 2 true = true := by kernel_rfl
theorem ring_2_false : ring 2 false = true := by kernel_rfl
theorem ring_3_true : ring 3 true = true := by kernel_rfl
theorem ring_3_false : ring 3 false = true := by kernel_rfl
theorem ring_4_true : ring 4 true = true := by kernel_rfl
theorem ring_4_false : ring 4 false = true := by kernel_rfl
theorem ring_5_true : ring 5 true = true := by kernel_rfl
theorem ring_5_false : ring 5 false = true := by kernel_rfl
theorem ring_6_true : ring 6 true = true := by kernel_rfl
theorem ring_6_false : ring 6 false = true := by kernel_rfl
theorem ring_7_true : ring 7 true = true := by kernel_rfl
theorem ring_7_false : ring 7 false = true := by kernel_rfl
end Go.Ai
