/- A part of an executor of the model over abstract values, and what it tells of the calls. -/
import Derived.Test.YtbaaogkpkgffdaaGreatDoorISd
namespace Go.Exe
theorem runIS_6_false_false_false : runIS 6 false false false = true := by kernel_rfl
theorem runIS_6_false_false_true : runIS 6 false false true = true := by kernel_rfl
theorem runIS_6_false_true_false : runIS 6 false true false = true := by kernel_rfl
theorem runIS_6_false_true_true : runIS 6 false true true = true := by kernel_rfl
theorem runIS_6_true_false_false : runIS 6 true false false = true := by kernel_rfl
theorem runIS_6_true_false_true : runIS 6 true false true = true := by kernel_rfl
theorem runIS_6_true_true_false : runIS 6 true true false = true := by kernel_rfl
theorem runIS_6_true_true_true : runIS 6 true true true = true := by kernel_rfl
theorem runIS_9_false_false_false : runIS 9 false false false = true := by kernel_rfl
theorem runIS_9_false_false_true : runIS 9 false false true = true := by kernel_rfl
theorem runIS_9_false_true_false : runIS 9 false true false = true := by kernel_rfl
theorem runIS_9_false_true_true : runIS 9 false true true = true := by kernel_rfl
theorem runIS_9_true_false_false : runIS 9 true false false = true := by kernel_rfl
theorem runIS_9_true_false_true : runIS 9 true false true = true := by kernel_rfl
theorem runIS_9_true_true_false : runIS 9 true true false = true := by kernel_rfl
theorem runIS_9_true_true_true : runIS 9 true true true = true := by kernel_rfl
end Go.Exe
