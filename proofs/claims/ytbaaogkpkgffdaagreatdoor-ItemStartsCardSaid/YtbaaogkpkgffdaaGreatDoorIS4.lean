/- A part of an executor of the model over abstract values, and what it tells of the calls. -/
import Derived.Test.YtbaaogkpkgffdaaGreatDoorISd
namespace Go.Exe
theorem runIS_4_false_false_false : runIS 4 false false false = true := by kernel_rfl
theorem runIS_4_false_false_true : runIS 4 false false true = true := by kernel_rfl
theorem runIS_4_false_true_false : runIS 4 false true false = true := by kernel_rfl
theorem runIS_4_false_true_true : runIS 4 false true true = true := by kernel_rfl
theorem runIS_4_true_false_false : runIS 4 true false false = true := by kernel_rfl
theorem runIS_4_true_false_true : runIS 4 true false true = true := by kernel_rfl
theorem runIS_4_true_true_false : runIS 4 true true false = true := by kernel_rfl
theorem runIS_4_true_true_true : runIS 4 true true true = true := by kernel_rfl
theorem runIS_11_false_false_false : runIS 11 false false false = true := by kernel_rfl
theorem runIS_11_false_false_true : runIS 11 false false true = true := by kernel_rfl
theorem runIS_11_false_true_false : runIS 11 false true false = true := by kernel_rfl
theorem runIS_11_false_true_true : runIS 11 false true true = true := by kernel_rfl
theorem runIS_11_true_false_false : runIS 11 true false false = true := by kernel_rfl
theorem runIS_11_true_false_true : runIS 11 true false true = true := by kernel_rfl
theorem runIS_11_true_true_false : runIS 11 true true false = true := by kernel_rfl
theorem runIS_11_true_true_true : runIS 11 true true true = true := by kernel_rfl
end Go.Exe
