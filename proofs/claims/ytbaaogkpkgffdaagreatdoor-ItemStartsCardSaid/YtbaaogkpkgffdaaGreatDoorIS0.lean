/- A part of an executor of the model over abstract values, and what it tells of the calls. -/
import Derived.Test.YtbaaogkpkgffdaaGreatDoorISd
namespace Go.Exe
theorem runIS_0_false_false_false : runIS 0 false false false = true := by kernel_rfl
theorem runIS_0_false_false_true : runIS 0 false false true = true := by kernel_rfl
theorem runIS_0_false_true_false : runIS 0 false true false = true := by kernel_rfl
theorem runIS_0_false_true_true : runIS 0 false true true = true := by kernel_rfl
theorem runIS_0_true_false_false : runIS 0 true false false = true := by kernel_rfl
theorem runIS_0_true_false_true : runIS 0 true false true = true := by kernel_rfl
theorem runIS_0_true_true_false : runIS 0 true true false = true := by kernel_rfl
theorem runIS_0_true_true_true : runIS 0 true true true = true := by kernel_rfl
theorem runIS_15_false_false_false : runIS 15 false false false = true := by kernel_rfl
theorem runIS_15_false_false_true : runIS 15 false false true = true := by kernel_rfl
theorem runIS_15_false_true_false : runIS 15 false true false = true := by kernel_rfl
theorem runIS_15_false_true_true : runIS 15 false true true = true := by kernel_rfl
theorem runIS_15_true_false_false : runIS 15 true false false = true := by kernel_rfl
theorem runIS_15_true_false_true : runIS 15 true false true = true := by kernel_rfl
theorem runIS_15_true_true_false : runIS 15 true true false = true := by kernel_rfl
theorem runIS_15_true_true_true : runIS 15 true true true = true := by kernel_rfl
theorem runISo_true_false_false_false_false_false_false : runISo true false false false false false false = true := by kernel_rfl
theorem runISo_true_false_false_false_false_false_true : runISo true false false false false false true = true := by kernel_rfl
theorem runISo_true_false_false_false_false_true_false : runISo true false false false false true false = true := by kernel_rfl
theorem runISo_true_false_false_false_false_true_true : runISo true false false false false true true = true := by kernel_rfl
theorem runISo_true_false_false_false_true_false_false : runISo true false false false true false false = true := by kernel_rfl
theorem runISo_true_false_false_false_true_false_true : runISo true false false false true false true = true := by kernel_rfl
theorem runISo_true_false_false_false_true_true_false : runISo true false false false true true false = true := by kernel_rfl
theorem runISo_true_false_false_false_true_true_true : runISo true false false false true true true = true := by kernel_rfl
theorem runISo_false_true_false_false_false_false_false : runISo false true false false false false false = true := by kernel_rfl
theorem runISo_false_true_false_false_false_false_true : runISo false true false false false false true = true := by kernel_rfl
theorem runISo_false_true_false_false_false_true_false : runISo false true false false false true false = true := by kernel_rfl
theorem runISo_false_true_false_false_false_true_true : runISo false true false false false true true = true := by kernel_rfl
theorem runISo_false_true_false_false_true_false_false : runISo false true false false true false false = true := by kernel_rfl
theorem runISo_false_true_false_false_true_false_true : runISo false true false false true false true = true := by kernel_rfl
theorem runISo_false_true_false_false_true_true_false : runISo false true false false true true false = true := by kernel_rfl
theorem runISo_false_true_false_false_true_true_true : runISo false true false false true true true = true := by kernel_rfl
theorem runISo_false_false_true_false_false_false_false : runISo false false true false false false false = true := by kernel_rfl
theorem runISo_false_false_true_false_false_false_true : runISo false false true false false false true = true := by kernel_rfl
theorem runISo_false_false_true_false_false_true_false : runISo false false true false false true false = true := by kernel_rfl
theorem runISo_false_false_true_false_false_true_true : runISo false false true false false true true = true := by kernel_rfl
theorem runISo_false_false_true_false_true_false_false : runISo false false true false true false false = true := by kernel_rfl
theorem runISo_false_false_true_false_true_false_true : runISo false false true false true false true = true := by kernel_rfl
theorem runISo_false_false_true_false_true_true_false : runISo false false true false true true false = true := by kernel_rfl
theorem runISo_false_false_true_false_true_true_true : runISo false false true false true true true = true := by kernel_rfl
theorem runISo_false_false_false_true_false_false_false : runISo false false false true false false false = true := by kernel_rfl
theorem runISo_false_false_false_true_false_false_true : runISo false false false true false false true = true := by kernel_rfl
theorem runISo_false_false_false_true_false_true_false : runISo false false false true false true false = true := by kernel_rfl
theorem runISo_false_false_false_true_false_true_true : runISo false false false true false true true = true := by kernel_rfl
theorem runISo_false_false_false_true_true_false_false : runISo false false false true true false false = true := by kernel_rfl
theorem runISo_false_false_false_true_true_false_true : runISo false false false true true false true = true := by kernel_rfl
theorem runISo_false_false_false_true_true_true_false : runISo false false false true true true false = true := by kernel_rfl
theorem runISo_false_false_false_true_true_true_true : runISo false false false true true true true = true := by kernel_rfl
end Go.Exe
