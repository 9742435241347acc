/- A part of an executor of the model over abstract values, and what it tells of the calls. -/
import Derived.Test.YtkajemhmmecimaaDoorPQd
namespace Go.Exe
theorem runQ_1_0 : runQ 1 0 = true := by kernel_rfl
theorem runQ_1_1 : runQ 1 1 = true := by kernel_rfl
theorem runQ_1_2 : runQ 1 2 = true := by kernel_rfl
theorem runQ_1_3 : runQ 1 3 = true := by kernel_rfl
theorem runQ_18_0 : runQ 18 0 = true := by kernel_rfl
theorem runQ_18_1 : runQ 18 1 = true := by kernel_rfl
theorem runQ_18_2 : runQ 18 2 = true := by kernel_rfl
theorem runQ_18_3 : runQ 18 3 = true := by kernel_rfl
theorem runQ_21_0 : runQ 21 0 = true := by kernel_rfl
theorem runQ_21_1 : runQ 21 1 = true := by kernel_rfl
theorem runQ_21_2 : runQ 21 2 = true := by kernel_rfl
theorem runQ_21_3 : runQ 21 3 = true := by kernel_rfl
theorem runQ_38_0 : runQ 38 0 = true := by kernel_rfl
theorem runQ_38_1 : runQ 38 1 = true := by kernel_rfl
theorem runQ_38_2 : runQ 38 2 = true := by kernel_rfl
theorem runQ_38_3 : runQ 38 3 = true := by kernel_rfl
end Go.Exe
