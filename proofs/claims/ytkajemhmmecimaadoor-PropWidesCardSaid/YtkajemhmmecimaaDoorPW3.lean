/- A part of an executor of the model over abstract values, and what it tells of the calls. -/
import Derived.Test.YtkajemhmmecimaaDoorPWd
namespace Go.Exe
theorem runW_6_0_true : runW 6 0 true = true := by kernel_rfl
theorem runW_6_0_false : runW 6 0 false = true := by kernel_rfl
theorem runW_6_1_true : runW 6 1 true = true := by kernel_rfl
theorem runW_6_1_false : runW 6 1 false = true := by kernel_rfl
theorem runW_6_2_true : runW 6 2 true = true := by kernel_rfl
theorem runW_6_2_false : runW 6 2 false = true := by kernel_rfl
theorem runW_7_0_true : runW 7 0 true = true := by kernel_rfl
theorem runW_7_0_false : runW 7 0 false = true := by kernel_rfl
theorem runW_7_1_true : runW 7 1 true = true := by kernel_rfl
theorem runW_7_1_false : runW 7 1 false = true := by kernel_rfl
theorem runW_7_2_true : runW 7 2 true = true := by kernel_rfl
theorem runW_7_2_false : runW 7 2 false = true := by kernel_rfl
end Go.Exe
