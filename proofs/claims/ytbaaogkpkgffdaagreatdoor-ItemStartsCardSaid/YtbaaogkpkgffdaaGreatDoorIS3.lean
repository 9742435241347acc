/- A part of an executor of the model over abstract values, and what it tells of the calls. -/
import Derived.Test.YtbaaogkpkgffdaaGreatDoorISd
namespace Go.Exe
theorem runIS_3_false_false_false : runIS 3 false false false = true := by kernel_rfl
theorem runIS_3_false_false_true : runIS 3 false false true = true := by kernel_rfl
theorem runIS_3_false_true_false : runIS 3 false true false = true := by kernel_rfl
theorem runIS_3_false_true_true : runIS 3 false true true = true := by kernel_rfl
theorem runIS_3_true_false_false : runIS 3 true false false = true := by kernel_rfl
theorem runIS_3_true_false_true : runIS 3 true false true = true := by kernel_rfl
theorem runIS_3_true_true_false : runIS 3 true true false = true := by kernel_rfl
theorem runIS_3_true_true_true : runIS 3 true true true = true := by kernel_rfl
theorem runIS_12_false_false_false : runIS 12 false false false = true := by kernel_rfl
theorem runIS_12_false_false_true : runIS 12 false false true = true := by kernel_rfl
theorem runIS_12_false_true_false : runIS 12 false true false = true := by kernel_rfl
theorem runIS_12_false_true_true : runIS 12 false true true = true := by kernel_rfl
theorem runIS_12_true_false_false : runIS 12 true false false = true := by kernel_rfl
theorem runIS_12_true_false_true : runIS 12 true false true = true := by kernel_rfl
theorem runIS_12_true_true_false : runIS 12 true true false = true := by kernel_rfl
theorem runIS_12_true_true_true : runIS 12 true true true = true := by kernel_rfl
end Go.Exe
