/- A part of an executor of the model over abstract values, and what it tells of the calls. -/
import Derived.Test.YtbaaogkpkgffdaaGreatDoorISd
namespace Go.Exe
theorem runIS_1_false_false_false : runIS 1 false false false = true := by kernel_rfl
theorem runIS_1_false_false_true : runIS 1 false false true = true := by kernel_rfl
theorem runIS_1_false_true_false : runIS 1 false true false = true := by kernel_rfl
theorem runIS_1_false_true_true : runIS 1 false true true = true := by kernel_rfl
theorem runIS_1_true_false_false : runIS 1 true false false = true := by kernel_rfl
theorem runIS_1_true_false_true : runIS 1 true false true = true := by kernel_rfl
theorem runIS_1_true_true_false : runIS 1 true true false = true := by kernel_rfl
theorem runIS_1_true_true_true : runIS 1 true true true = true := by kernel_rfl
theorem runIS_14_false_false_false : runIS 14 false false false = true := by kernel_rfl
theorem runIS_14_false_false_true : runIS 14 false false true = true := by kernel_rfl
theorem runIS_14_false_true_false : runIS 14 false true false = true := by kernel_rfl
theorem runIS_14_false_true_true : runIS 14 false true true = true := by kernel_rfl
theorem runIS_14_true_false_false : runIS 14 true false false = true := by kernel_rfl
theorem runIS_14_true_false_true : runIS 14 true false true = true := by kernel_rfl
theorem runIS_14_true_true_false : runIS 14 true true false = true := by kernel_rfl
theorem runIS_14_true_true_true : runIS 14 true true true = true := by kernel_rfl
end Go.Exe
