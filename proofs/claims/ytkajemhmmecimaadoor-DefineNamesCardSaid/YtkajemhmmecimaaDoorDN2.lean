/- A part of an executor of the model over abstract values, and what it tells of the calls. -/
import Derived.Test.YtkajemhmmecimaaDoorDNd
namespace Go.Exe
theorem runDN_6_0 : runDN 6 0 = true := by kernel_rfl
theorem runDN_6_1 : runDN 6 1 = true := by kernel_rfl
theorem runDN_6_2 : runDN 6 2 = true := by kernel_rfl
theorem runDN_6_3 : runDN 6 3 = true := by kernel_rfl
theorem runDN_7_0 : runDN 7 0 = true := by kernel_rfl
theorem runDN_7_1 : runDN 7 1 = true := by kernel_rfl
theorem runDN_7_2 : runDN 7 2 = true := by kernel_rfl
theorem runDN_7_3 : runDN 7 3 = true := by kernel_rfl
theorem runDN_8_0 : runDN 8 0 = true := by kernel_rfl
theorem runDN_8_1 : runDN 8 1 = true := by kernel_rfl
theorem runDN_8_2 : runDN 8 2 = true := by kernel_rfl
theorem runDN_8_3 : runDN 8 3 = true := by kernel_rfl
end Go.Exe
