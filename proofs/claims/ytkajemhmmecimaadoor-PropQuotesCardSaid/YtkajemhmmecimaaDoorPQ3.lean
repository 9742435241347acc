/- A part of an executor of the model over abstract values, and what it tells of the calls. -/
import Derived.Test.YtkajemhmmecimaaDoorPQd
namespace Go.Exe
theorem runQ_3_0 : runQ 3 0 = true := by kernel_rfl
theorem runQ_3_1 : runQ 3 1 = true := by kernel_rfl
theorem runQ_3_2 : runQ 3 2 = true := by kernel_rfl
theorem runQ_3_3 : runQ 3 3 = true := by kernel_rfl
theorem runQ_16_0 : runQ 16 0 = true := by kernel_rfl
theorem runQ_16_1 : runQ 16 1 = true := by kernel_rfl
theorem runQ_16_2 : runQ 16 2 = true := by kernel_rfl
theorem runQ_16_3 : runQ 16 3 = true := by kernel_rfl
theorem runQ_23_0 : runQ 23 0 = true := by kernel_rfl
theorem runQ_23_1 : runQ 23 1 = true := by kernel_rfl
theorem runQ_23_2 : runQ 23 2 = true := by kernel_rfl
theorem runQ_23_3 : runQ 23 3 = true := by kernel_rfl
theorem runQ_36_0 : runQ 36 0 = true := by kernel_rfl
theorem runQ_36_1 : runQ 36 1 = true := by kernel_rfl
theorem runQ_36_2 : runQ 36 2 = true := by kernel_rfl
theorem runQ_36_3 : runQ 36 3 = true := by kernel_rfl
end Go.Exe
