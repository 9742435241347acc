/- A part of an executor of the model over abstract values, and what it tells of the calls. -/
import Derived.Test.YtkajemhmmecimaaDoorPQd
namespace Go.Exe
theorem runQ_9_0 : runQ 9 0 = true := by kernel_rfl
theorem runQ_9_1 : runQ 9 1 = true := by kernel_rfl
theorem runQ_9_2 : runQ 9 2 = true := by kernel_rfl
theorem runQ_9_3 : runQ 9 3 = true := by kernel_rfl
theorem runQ_10_0 : runQ 10 0 = true := by kernel_rfl
theorem runQ_10_1 : runQ 10 1 = true := by kernel_rfl
theorem runQ_10_2 : runQ 10 2 = true := by kernel_rfl
theorem runQ_10_3 : runQ 10 3 = true := by kernel_rfl
theorem runQ_29_0 : runQ 29 0 = true := by kernel_rfl
theorem runQ_29_1 : runQ 29 1 = true := by kernel_rfl
theorem runQ_29_2 : runQ 29 2 = true := by kernel_rfl
theorem runQ_29_3 : runQ 29 3 = true := by kernel_rfl
theorem runQ_30_0 : runQ 30 0 = true := by kernel_rfl
theorem runQ_30_1 : runQ 30 1 = true := by kernel_rfl
theorem runQ_30_2 : runQ 30 2 = true := by kernel_rfl
theorem runQ_30_3 : runQ 30 3 = true := by kernel_rfl
end Go.Exe
