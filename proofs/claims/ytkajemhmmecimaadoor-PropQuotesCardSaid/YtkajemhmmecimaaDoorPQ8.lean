/- A part of an executor of the model over abstract values, and what it tells of the calls. -/
import Derived.Test.YtkajemhmmecimaaDoorPQd
namespace Go.Exe
theorem runQ_8_0 : runQ 8 0 = true := by kernel_rfl
theorem runQ_8_1 : runQ 8 1 = true := by kernel_rfl
theorem runQ_8_2 : runQ 8 2 = true := by kernel_rfl
theorem runQ_8_3 : runQ 8 3 = true := by kernel_rfl
theorem runQ_11_0 : runQ 11 0 = true := by kernel_rfl
theorem runQ_11_1 : runQ 11 1 = true := by kernel_rfl
theorem runQ_11_2 : runQ 11 2 = true := by kernel_rfl
theorem runQ_11_3 : runQ 11 3 = true := by kernel_rfl
theorem runQ_28_0 : runQ 28 0 = true := by kernel_rfl
theorem runQ_28_1 : runQ 28 1 = true := by kernel_rfl
theorem runQ_28_2 : runQ 28 2 = true := by kernel_rfl
theorem runQ_28_3 : runQ 28 3 = true := by kernel_rfl
theorem runQ_31_0 : runQ 31 0 = true := by kernel_rfl
theorem runQ_31_1 : runQ 31 1 = true := by kernel_rfl
theorem runQ_31_2 : runQ 31 2 = true := by kernel_rfl
theorem runQ_31_3 : runQ 31 3 = true := by kernel_rfl
end Go.Exe
