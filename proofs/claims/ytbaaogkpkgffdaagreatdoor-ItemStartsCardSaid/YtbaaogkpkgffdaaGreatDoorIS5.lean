/- A part of an executor of the model over abstract values, and what it tells of the calls. -/
import Derived.Test.YtbaaogkpkgffdaaGreatDoorISd
namespace Go.Exe
theorem runIS_5_false_false_false : runIS 5 false false false = true := by kernel_rfl
theorem runIS_5_false_false_true : runIS 5 false false true = true := by kernel_rfl
theorem runIS_5_false_true_false : runIS 5 false true false = true := by kernel_rfl
theorem runIS_5_false_true_true : runIS 5 false true true = true := by kernel_rfl
theorem runIS_5_true_false_false : runIS 5 true false false = true := by kernel_rfl
theorem runIS_5_true_false_true : runIS 5 true false true = true := by kernel_rfl
theorem runIS_5_true_true_false : runIS 5 true true false = true := by kernel_rfl
theorem runIS_5_true_true_true : runIS 5 true true true = true := by kernel_rfl
theorem runIS_10_false_false_false : runIS 10 false false false = true := by kernel_rfl
theorem runIS_10_false_false_true : runIS 10 false false true = true := by kernel_rfl
theorem runIS_10_false_true_false : runIS 10 false true false = true := by kernel_rfl
theorem runIS_10_false_true_true : runIS 10 false true true = true := by kernel_rfl
theorem runIS_10_true_false_false : runIS 10 true false false = true := by kernel_rfl
theorem runIS_10_true_false_true : runIS 10 true false true = true := by kernel_rfl
theorem runIS_10_true_true_false : runIS 10 true true false = true := by kernel_rfl
theorem runIS_10_true_true_true : runIS 10 true true true = true := by kernel_rfl
end Go.Exe
