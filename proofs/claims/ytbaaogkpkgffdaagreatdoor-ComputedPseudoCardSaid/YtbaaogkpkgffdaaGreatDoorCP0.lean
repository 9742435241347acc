/- A part of an executor of the model over abstract values, and what it tells of the calls. -/
import Derived.Test.YtbaaogkpkgffdaaGreatDoorCPd
namespace Go.Exe
theorem runCP_0 : runCP 0 = true := by kernel_rfl
theorem runCP_1 : runCP 1 = true := by kernel_rfl
theorem runCP_2 : runCP 2 = true := by kernel_rfl
theorem runCP_3 : runCP 3 = true := by kernel_rfl
theorem runCP_4 : runCP 4 = true := by kernel_rfl
end Go.Exe
