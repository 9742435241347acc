/- A part of an executor of the model over abstract values, and what it tells of the calls. -/
import Derived.Test.YtkajemhmmecimaaDoorPQd
namespace Go.Exe
theorem runQ_6_0 : runQ 6 0 = true := by kernel_rfl
theorem runQ_6_1 : runQ 6 1 = true := by kernel_rfl
theorem runQ_6_2 : runQ 6 2 = true := by kernel_rfl
theorem runQ_6_3 : runQ 6 3 = true := by kernel_rfl
theorem runQ_13_0 : runQ 13 0 = true := by kernel_rfl
theorem runQ_13_1 : runQ 13 1 = true := by kernel_rfl
theorem runQ_13_2 : runQ 13 2 = true := by kernel_rfl
theorem runQ_13_3 : runQ 13 3 = true := by kernel_rfl
theorem runQ_26_0 : runQ 26 0 = true := by kernel_rfl
theorem runQ_26_1 : runQ 26 1 = true := by kernel_rfl
theorem runQ_26_2 : runQ 26 2 = true := by kernel_rfl
theorem runQ_26_3 : runQ 26 3 = true := by kernel_rfl
theorem runQ_33_0 : runQ 33 0 = true := by kernel_rfl
theorem runQ_33_1 : runQ 33 1 = true := by kernel_rfl
theorem runQ_33_2 : runQ 33 2 = true := by kernel_rfl
theorem runQ_33_3 : runQ 33 3 = true := by kernel_rfl
end Go.Exe
