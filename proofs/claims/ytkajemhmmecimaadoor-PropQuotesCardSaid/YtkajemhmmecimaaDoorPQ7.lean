/- A part of an executor of the model over abstract values, and what it tells of the calls. -/
import Derived.Test.YtkajemhmmecimaaDoorPQd
namespace Go.Exe
theorem runQ_7_0 : runQ 7 0 = true := by kernel_rfl
theorem runQ_7_1 : runQ 7 1 = true := by kernel_rfl
theorem runQ_7_2 : runQ 7 2 = true := by kernel_rfl
theorem runQ_7_3 : runQ 7 3 = true := by kernel_rfl
theorem runQ_12_0 : runQ 12 0 = true := by kernel_rfl
theorem runQ_12_1 : runQ 12 1 = true := by kernel_rfl
theorem runQ_12_2 : runQ 12 2 = true := by kernel_rfl
theorem runQ_12_3 : runQ 12 3 = true := by kernel_rfl
theorem runQ_27_0 : runQ 27 0 = true := by kernel_rfl
theorem runQ_27_1 : runQ 27 1 = true := by kernel_rfl
theorem runQ_27_2 : runQ 27 2 = true := by kernel_rfl
theorem runQ_27_3 : runQ 27 3 = true := by kernel_rfl
theorem runQ_32_0 : runQ 32 0 = true := by kernel_rfl
theorem runQ_32_1 : runQ 32 1 = true := by kernel_rfl
theorem runQ_32_2 : runQ 32 2 = true := by kernel_rfl
theorem runQ_32_3 : runQ 32 3 = true := by kernel_rfl
end Go.Exe
