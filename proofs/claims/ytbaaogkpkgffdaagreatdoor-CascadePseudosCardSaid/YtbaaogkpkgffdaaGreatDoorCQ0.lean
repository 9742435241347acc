/- A part of an executor of the model over abstract values, and what it tells of the calls. -/
import Derived.Test.YtbaaogkpkgffdaaGreatDoorCQd
namespace Go.Exe
theorem runCQ_0 : runCQ 0 = true := by kernel_rfl
theorem runCQ_1 : runCQ 1 = true := by kernel_rfl
end Go.Exe
