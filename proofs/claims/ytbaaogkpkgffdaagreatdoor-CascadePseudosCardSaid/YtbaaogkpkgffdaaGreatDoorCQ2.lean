/- A part of an executor of the model over abstract values, and what it tells of the calls. -/
import Derived.Test.YtbaaogkpkgffdaaGreatDoorCQd
namespace Go.Exe
theorem runCQ_4 : runCQ 4 = true := by kernel_rfl
theorem runCQ_5 : runCQ 5 = true := by kernel_rfl
end Go.Exe
