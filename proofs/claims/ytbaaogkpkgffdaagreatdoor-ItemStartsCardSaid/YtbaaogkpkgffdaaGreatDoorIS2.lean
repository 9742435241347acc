/- A part of an executor of the model over abstract values, and what it tells of the calls. -/
import Derived.Test.YtbaaogkpkgffdaaGreatDoorISd
namespace Go.Exe
theorem runIS_2_false_false_false : runIS 2 false false false = true := by kernel_rfl
theorem runIS_2_false_false_true : runIS 2 false false true = true := by kernel_rfl
theorem runIS_2_false_true_false : runIS 2 false true false = true := by kernel_rfl
theorem runIS_2_false_true_true : runIS 2 false true true = true := by kernel_rfl
theorem runIS_2_true_false_false : runIS 2 true false false = true := by kernel_rfl
theorem runIS_2_true_false_true : runIS 2 true false true = true := by kernel_rfl
theorem runIS_2_true_true_false : runIS 2 true true false = true := by kernel_rfl
theorem runIS_2_true_true_true : runIS 2 true true true = true := by kernel_rfl
theorem runIS_13_false_false_false : runIS 13 false false false = true := by kernel_rfl
theorem runIS_13_false_false_true : runIS 13 false false true = true := by kernel_rfl
theorem runIS_13_false_true_false : runIS 13 false true false = true := by kernel_rfl
theorem runIS_13_false_true_true : runIS 13 false true true = true := by kernel_rfl
theorem runIS_13_true_false_false : runIS 13 true false false = true := by kernel_rfl
theorem runIS_13_true_false_true : runIS 13 true false true = true := by kernel_rfl
theorem runIS_13_true_true_false : runIS 13 true true false = true := by kernel_rfl
theorem runIS_13_true_true_true : runIS 13 true true true = true := by kernel_rfl
end Go.Exe
