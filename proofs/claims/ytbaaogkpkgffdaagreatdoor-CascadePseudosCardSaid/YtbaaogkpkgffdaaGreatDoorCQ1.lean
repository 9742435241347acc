/- A part of an executor of the model over abstract values, and what it tells of the calls. -/
import Derived.Test.YtbaaogkpkgffdaaGreatDoorCQd
namespace Go.Exe
theorem runCQ_2 : runCQ 2 = true := by kernel_rfl
theorem runCQ_3 : runCQ 3 = true := by kernel_rfl
end Go.Exe
