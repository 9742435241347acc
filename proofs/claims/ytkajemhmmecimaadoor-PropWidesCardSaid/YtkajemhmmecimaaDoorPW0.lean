/- A part of an executor of the model over abstract values, and what it tells of the calls. -/
import Derived.Test.YtkajemhmmecimaaDoorPWd
namespace Go.Exe
theorem runW_0_0_true : runW 0 0 true = true := by kernel_rfl
theorem runW_0_0_false : runW 0 0 false = true := by kernel_rfl
theorem runW_0_1_true : runW 0 1 true = true := by kernel_rfl
theorem runW_0_1_false : runW 0 1 false = true := by kernel_rfl
theorem runW_0_2_true : runW 0 2 true = true := by kernel_rfl
theorem runW_0_2_false : runW 0 2 false = true := by kernel_rfl
theorem runW_1_0_true : runW 1 0 true = true := by kernel_rfl
theorem runW_1_0_false : runW 1 0 false = true := by kernel_rfl
theorem runW_1_1_true : runW 1 1 true = true := by kernel_rfl
theorem runW_1_1_false : runW 1 1 false = true := by kernel_rfl
theorem runW_1_2_true : runW 1 2 true = true := by kernel_rfl
theorem runW_1_2_false : runW 1 2 false = true := by kernel_rfl
end Go.Exe
