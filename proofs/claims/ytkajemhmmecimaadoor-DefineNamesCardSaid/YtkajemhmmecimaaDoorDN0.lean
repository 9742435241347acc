/- A part of an executor of the model over abstract values, and what it tells of the calls. -/
import Derived.Test.YtkajemhmmecimaaDoorDNd
namespace Go.Exe
theorem runDN_0_0 : runDN 0 0 = true := by kernel_rfl
theorem runDN_0_1 : runDN 0 1 = true := by kernel_rfl
theorem runDN_0_2 : runDN 0 2 = true := by kernel_rfl
theorem runDN_0_3 : runDN 0 3 = true := by kernel_rfl
theorem runDN_1_0 : runDN 1 0 = true := by kernel_rfl
theorem runDN_1_1 : runDN 1 1 = true := by kernel_rfl
theorem runDN_1_2 : runDN 1 2 = true := by kernel_rfl
theorem runDN_1_3 : runDN 1 3 = true := by kernel_rfl
theorem runDN_2_0 : runDN 2 0 = true := by kernel_rfl
theorem runDN_2_1 : runDN 2 1 = true := by kernel_rfl
theorem runDN_2_2 : runDN 2 2 = true := by kernel_rfl
theorem runDN_2_3 : runDN 2 3 = true := by kernel_rfl
end Go.Exe
