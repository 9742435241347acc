/- A part of an executor of the model over abstract values, and what it tells of the calls. -/
import Derived.Test.YtkajemhmmecimaaDoorPWd
namespace Go.Exe
theorem runW_2_0_true : runW 2 0 true = true := by kernel_rfl
theorem runW_2_0_false : runW 2 0 false = true := by kernel_rfl
theorem runW_2_1_true : runW 2 1 true = true := by kernel_rfl
theorem runW_2_1_false : runW 2 1 false = true := by kernel_rfl
theorem runW_2_2_true : runW 2 2 true = true := by kernel_rfl
theorem runW_2_2_false : runW 2 2 false = true := by kernel_rfl
theorem runW_3_0_true : runW 3 0 true = true := by kernel_rfl
theorem runW_3_0_false : runW 3 0 false = true := by kernel_rfl
theorem runW_3_1_true : runW 3 1 true = true := by kernel_rfl
theorem runW_3_1_false : runW 3 1 false = true := by kernel_rfl
theorem runW_3_2_true : runW 3 2 true = true := by kernel_rfl
theorem runW_3_2_false : runW 3 2 false = true := by kernel_rfl
end Go.Exe
