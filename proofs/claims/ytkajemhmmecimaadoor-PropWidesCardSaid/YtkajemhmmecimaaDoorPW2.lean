/- A part of an executor of the model over abstract values, and what it tells of the calls. -/
import Derived.Test.YtkajemhmmecimaaDoorPWd
namespace Go.Exe
theorem runW_4_0_true : runW 4 0 true = true := by kernel_rfl
theorem runW_4_0_false : runW 4 0 false = true := by kernel_rfl
theorem runW_4_1_true : runW 4 1 true = true := by kernel_rfl
theorem runW_4_1_false : runW 4 1 false = true := by kernel_rfl
theorem runW_4_2_true : runW 4 2 true = true := by kernel_rfl
theorem runW_4_2_false : runW 4 2 false = true := by kernel_rfl
theorem runW_5_0_true : runW 5 0 true = true := by kernel_rfl
theorem runW_5_0_false : runW 5 0 false = true := by kernel_rfl
theorem runW_5_1_true : runW 5 1 true = true := by kernel_rfl
theorem runW_5_1_false : runW 5 1 false = true := by kernel_rfl
theorem runW_5_2_true : runW 5 2 true = true := by kernel_rfl
theorem runW_5_2_false : runW 5 2 false = true := by kernel_rfl
end Go.Exe
