/- A part of an executor of the model over abstract values, and what it tells of the calls. -/
import Derived.Test.YtkajemhmmecimaaDoorPQd
namespace Go.Exe
theorem runQo_f : runQo factsQf = true := by kernel_rfl
theorem runQo_t : runQo factsQt = true := by kernel_rfl
theorem runQ_0_0 : runQ 0 0 = true := by kernel_rfl
theorem runQ_0_1 : runQ 0 1 = true := by kernel_rfl
theorem runQ_0_2 : runQ 0 2 = true := by kernel_rfl
theorem runQ_0_3 : runQ 0 3 = true := by kernel_rfl
theorem runQ_19_0 : runQ 19 0 = true := by kernel_rfl
theorem runQ_19_1 : runQ 19 1 = true := by kernel_rfl
theorem runQ_19_2 : runQ 19 2 = true := by kernel_rfl
theorem runQ_19_3 : runQ 19 3 = true := by kernel_rfl
theorem runQ_20_0 : runQ 20 0 = true := by kernel_rfl
theorem runQ_20_1 : runQ 20 1 = true := by kernel_rfl
theorem runQ_20_2 : runQ 20 2 = true := by kernel_rfl
theorem runQ_20_3 : runQ 20 3 = true := by kernel_rfl
theorem runQ_39_0 : runQ 39 0 = true := by kernel_rfl
theorem runQ_39_1 : runQ 39 1 = true := by kernel_rfl
theorem runQ_39_2 : runQ 39 2 = true := by kernel_rfl
theorem runQ_39_3 : runQ 39 3 = true := by kernel_rfl
theorem runQ_40_0 : runQ 40 0 = true := by kernel_rfl
theorem runQ_40_1 : runQ 40 1 = true := by kernel_rfl
theorem runQ_40_2 : runQ 40 2 = true := by kernel_rfl
theorem runQ_40_3 : runQ 40 3 = true := by kernel_rfl
end Go.Exe
