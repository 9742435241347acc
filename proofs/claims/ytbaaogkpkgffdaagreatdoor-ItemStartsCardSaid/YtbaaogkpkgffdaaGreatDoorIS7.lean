/- A part of an executor of the model over abstract values, and what it tells of the calls. -/
import Derived.Test.YtbaaogkpkgffdaaGreatDoorISd
namespace Go.Exe
theorem runIS_7_false_false_false : runIS 7 false false false = true := by kernel_rfl
theorem runIS_7_false_false_true : runIS 7 false false true = true := by kernel_rfl
theorem runIS_7_false_true_false : runIS 7 false true false = true := by kernel_rfl
theorem runIS_7_false_true_true : runIS 7 false true true = true := by kernel_rfl
theorem runIS_7_true_false_false : runIS 7 true false false = true := by kernel_rfl
theorem runIS_7_true_false_true : runIS 7 true false true = true := by kernel_rfl
theorem runIS_7_true_true_false : runIS 7 true true false = true := by kernel_rfl
theorem runIS_7_true_true_true : runIS 7 true true true = true := by kernel_rfl
theorem runIS_8_false_false_false : runIS 8 false false false = true := by kernel_rfl
theorem runIS_8_false_false_true : runIS 8 false false true = true := by kernel_rfl
theorem runIS_8_false_true_false : runIS 8 false true false = true := by kernel_rfl
theorem runIS_8_false_true_true : runIS 8 false true true = true := by kernel_rfl
theorem runIS_8_true_false_false : runIS 8 true false false = true := by kernel_rfl
theorem runIS_8_true_false_true : runIS 8 true false true = true := by kernel_rfl
theorem runIS_8_true_true_false : runIS 8 true true false = true := by kernel_rfl
theorem runIS_8_true_true_true : runIS 8 true true true = true := by kernel_rfl
end Go.Exe
