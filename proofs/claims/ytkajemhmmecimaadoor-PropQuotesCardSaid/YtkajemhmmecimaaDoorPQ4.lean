/- A part of an executor of the model over abstract values, and what it tells of the calls. -/
import Derived.Test.YtkajemhmmecimaaDoorPQd
namespace Go.Exe
theorem runQ_4_0 : runQ 4 0 = true := by kernel_rfl
theorem runQ_4_1 : runQ 4 1 = true := by kernel_rfl
theorem runQ_4_2 : runQ 4 2 = true := by kernel_rfl
theorem runQ_4_3 : runQ 4 3 = true := by kernel_rfl
theorem runQ_15_0 : runQ 15 0 = true := by kernel_rfl
theorem runQ_15_1 : runQ 15 1 = true := by kernel_rfl
theorem runQ_15_2 : runQ 15 2 = true := by kernel_rfl
theorem runQ_15_3 : runQ 15 3 = true := by kernel_rfl
theorem runQ_24_0 : runQ 24 0 = true := by kernel_rfl
theorem runQ_24_1 : runQ 24 1 = true := by kernel_rfl
theorem runQ_24_2 : runQ 24 2 = true := by kernel_rfl
theorem runQ_24_3 : runQ 24 3 = true := by kernel_rfl
theorem runQ_35_0 : runQ 35 0 = true := by kernel_rfl
theorem runQ_35_1 : runQ 35 1 = true := by kernel_rfl
theorem runQ_35_2 : runQ 35 2 = true := by kernel_rfl
theorem runQ_35_3 : runQ 35 3 = true := by kernel_rfl
end Go.Exe
