/- A part of an executor of the model over abstract values, and what it tells of the calls. -/
import Derived.Test.YtkajemhmmecimaaDoorPQd
namespace Go.Exe
theorem runQ_5_0 : runQ 5 0 = true := by kernel_rfl
theorem runQ_5_1 : runQ 5 1 = true := by kernel_rfl
theorem runQ_5_2 : runQ 5 2 = true := by kernel_rfl
theorem runQ_5_3 : runQ 5 3 = true := by kernel_rfl
theorem runQ_14_0 : runQ 14 0 = true := by kernel_rfl
theorem runQ_14_1 : runQ 14 1 = true := by kernel_rfl
theorem runQ_14_2 : runQ 14 2 = true := by kernel_rfl
theorem runQ_14_3 : runQ 14 3 = true := by kernel_rfl
theorem runQ_25_0 : runQ 25 0 = true := by kernel_rfl
theorem runQ_25_1 : runQ 25 1 = true := by kernel_rfl
theorem runQ_25_2 : runQ 25 2 = true := by kernel_rfl
theorem runQ_25_3 : runQ 25 3 = true := by kernel_rfl
theorem runQ_34_0 : runQ 34 0 = true := by kernel_rfl
theorem runQ_34_1 : runQ 34 1 = true := by kernel_rfl
theorem runQ_34_2 : runQ 34 2 = true := by kernel_rfl
theorem runQ_34_3 : runQ 34 3 = true := by kernel_rfl
end Go.Exe
