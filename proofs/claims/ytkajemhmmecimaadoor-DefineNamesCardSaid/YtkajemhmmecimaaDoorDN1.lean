/- A part of an executor of the model over abstract values, and what it tells of the calls. -/
import Derived.Test.YtkajemhmmecimaaDoorDNd
namespace Go.Exe
theorem runDN_3_0 : runDN 3 0 = true := by kernel_rfl
theorem runDN_3_1 : runDN 3 1 = true := by kernel_rfl
theorem runDN_3_2 : runDN 3 2 = true := by kernel_rfl
theorem runDN_3_3 : runDN 3 3 = true := by kernel_rfl
theorem runDN_4_0 : runDN 4 0 = true := by kernel_rfl
theorem runDN_4_1 : runDN 4 1 = true := by kernel_rfl
theorem runDN_4_2 : runDN 4 2 = true := by kernel_rfl
theorem runDN_4_3 : runDN 4 3 = true := by kernel_rfl
theorem runDN_5_0 : runDN 5 0 = true := by kernel_rfl
theorem runDN_5_1 : runDN 5 1 = true := by kernel_rfl
theorem runDN_5_2 : runDN 5 2 = true := by kernel_rfl
theorem runDN_5_3 : runDN 5 3 = true := by kernel_rfl
end Go.Exe
