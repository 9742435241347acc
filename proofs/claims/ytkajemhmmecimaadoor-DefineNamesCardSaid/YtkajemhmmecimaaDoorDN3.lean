/- A part of an executor of the model over abstract values, and what it tells of the calls. -/
import Derived.Test.YtkajemhmmecimaaDoorDNd
namespace Go.Exe
theorem runDN_9_0 : runDN 9 0 = true := by kernel_rfl
theorem runDN_9_1 : runDN 9 1 = true := by kernel_rfl
theorem runDN_9_2 : runDN 9 2 = true := by kernel_rfl
theorem runDN_9_3 : runDN 9 3 = true := by kernel_rfl
theorem runDN_10_0 : runDN 10 0 = true := by kernel_rfl
theorem runDN_10_1 : runDN 10 1 = true := by kernel_rfl
theorem runDN_10_2 : runDN 10 2 = true := by kernel_rfl
theorem runDN_10_3 : runDN 10 3 = true := by kernel_rfl
theorem runDN_11_0 : runDN 11 0 = true := by kernel_rfl
theorem runDN_11_1 : runDN 11 1 = true := by kernel_rfl
theorem runDN_11_2 : runDN 11 2 = true := by kernel_rfl
theorem runDN_11_3 : runDN 11 3 = true := by kernel_rfl
end Go.Exe
