/- A part of an executor of the model over abstract values, and what it tells of the calls. -/
import Derived.Test.YtkajemhmmecimaaDoorPQd
namespace Go.Exe
theorem runQ_2_0 : runQ 2 0 = true := by kernel_rfl
theorem runQ_2_1 : runQ 2 1 = true := by kernel_rfl
theorem runQ_2_2 : runQ 2 2 = true := by kernel_rfl
theorem runQ_2_3 : runQ 2 3 = true := by kernel_rfl
theorem runQ_17_0 : runQ 17 0 = true := by kernel_rfl
theorem runQ_17_1 : runQ 17 1 = true := by kernel_rfl
theorem runQ_17_2 : runQ 17 2 = true := by kernel_rfl
theorem runQ_17_3 : runQ 17 3 = true := by kernel_rfl
theorem runQ_22_0 : runQ 22 0 = true := by kernel_rfl
theorem runQ_22_1 : runQ 22 1 = true := by kernel_rfl
theorem runQ_22_2 : runQ 22 2 = true := by kernel_rfl
theorem runQ_22_3 : runQ 22 3 = true := by kernel_rfl
theorem runQ_37_0 : runQ 37 0 = true := by kernel_rfl
theorem runQ_37_1 : runQ 37 1 = true := by kernel_rfl
theorem runQ_37_2 : runQ 37 2 = true := by kernel_rfl
theorem runQ_37_3 : runQ 37 3 = true := by kernel_rfl
end Go.Exe
