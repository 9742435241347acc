/- ItemNumbers: runs, the first half. -/
import Derived.Test.YtbaaogkpkgffdaaGreatDoorINd
namespace Go.Exe
set_option maxRecDepth 100000
theorem runIN_0_false_false_false_false : runIN 0 (.str 0 0) (.str 1 45) false false false false false = true := by kernel_rfl
theorem runIN_0_false_false_true_false : runIN 0 (.str 0 0) (.str 1 45) false false true false true = true := by kernel_rfl
theorem runIN_0_false_false_true_true : runIN 0 (.str 0 0) (.str 1 45) false false true true false = true := by kernel_rfl
theorem runIN_0_false_true_false_false : runIN 0 (.str 0 0) (.str 1 45) false true false false false = true := by kernel_rfl
theorem runIN_0_false_true_true_false : runIN 0 (.str 0 0) (.str 1 45) false true true false true = true := by kernel_rfl
theorem runIN_0_false_true_true_true : runIN 0 (.str 0 0) (.str 1 45) false true true true false = true := by kernel_rfl
theorem runIN_0_true_false_false_false : runIN 0 (.str 0 0) (.str 1 45) true false false false false = true := by kernel_rfl
theorem runIN_0_true_false_true_false : runIN 0 (.str 0 0) (.str 1 45) true false true false true = true := by kernel_rfl
theorem runIN_0_true_false_true_true : runIN 0 (.str 0 0) (.str 1 45) true false true true false = true := by kernel_rfl
theorem runIN_0_true_true_false_false : runIN 0 (.str 1 43) (.str 2 11563) true true false false false = true := by kernel_rfl
theorem runIN_0_true_true_true_false : runIN 0 (.str 1 43) (.str 2 11563) true true true false true = true := by kernel_rfl
theorem runIN_0_true_true_true_true : runIN 0 (.str 1 43) (.str 2 11563) true true true true false = true := by kernel_rfl
theorem runIN_1_false_false_false_false : runIN 1 (.str 1 32) (.str 2 11552) false false false false false = true := by kernel_rfl
theorem runIN_1_false_false_true_false : runIN 1 (.str 1 32) (.str 2 11552) false false true false true = true := by kernel_rfl
theorem runIN_1_false_false_true_true : runIN 1 (.str 1 32) (.str 2 11552) false false true true false = true := by kernel_rfl
theorem runIN_1_false_true_false_false : runIN 1 (.str 1 32) (.str 2 11552) false true false false false = true := by kernel_rfl
theorem runIN_1_false_true_true_false : runIN 1 (.str 1 32) (.str 2 11552) false true true false true = true := by kernel_rfl
theorem runIN_1_false_true_true_true : runIN 1 (.str 1 32) (.str 2 11552) false true true true false = true := by kernel_rfl
theorem runIN_1_true_false_false_false : runIN 1 (.str 1 32) (.str 2 11552) true false false false false = true := by kernel_rfl
theorem runIN_1_true_false_true_false : runIN 1 (.str 1 32) (.str 2 11552) true false true false true = true := by kernel_rfl
theorem runIN_1_true_false_true_true : runIN 1 (.str 1 32) (.str 2 11552) true false true true false = true := by kernel_rfl
theorem runIN_1_true_true_false_false : runIN 1 (.str 2 11040) (.str 3 2960160) true true false false false = true := by kernel_rfl
theorem runIN_1_true_true_true_false : runIN 1 (.str 2 11040) (.str 3 2960160) true true true false true = true := by kernel_rfl
theorem runIN_1_true_true_true_true : runIN 1 (.str 2 11040) (.str 3 2960160) true true true true false = true := by kernel_rfl
theorem runIN_2_false_false_false_false : runIN 2 (.str 2 8224) (.str 3 2957344) false false false false false = true := by kernel_rfl
theorem runIN_2_false_false_true_false : runIN 2 (.str 2 8224) (.str 3 2957344) false false true false true = true := by kernel_rfl
theorem runIN_2_false_false_true_true : runIN 2 (.str 2 8224) (.str 3 2957344) false false true true false = true := by kernel_rfl
theorem runIN_2_false_true_false_false : runIN 2 (.str 2 8224) (.str 3 2957344) false true false false false = true := by kernel_rfl
theorem runIN_2_false_true_true_false : runIN 2 (.str 2 8224) (.str 3 2957344) false true true false true = true := by kernel_rfl
theorem runIN_2_false_true_true_true : runIN 2 (.str 2 8224) (.str 3 2957344) false true true true false = true := by kernel_rfl
theorem runIN_2_true_false_false_false : runIN 2 (.str 2 8224) (.str 3 2957344) true false false false false = true := by kernel_rfl
theorem runIN_2_true_false_true_false : runIN 2 (.str 2 8224) (.str 3 2957344) true false true false true = true := by kernel_rfl
theorem runIN_2_true_false_true_true : runIN 2 (.str 2 8224) (.str 3 2957344) true false true true false = true := by kernel_rfl
theorem runIN_2_true_true_false_false : runIN 2 (.str 3 2826272) (.str 4 757800992) true true false false false = true := by kernel_rfl
theorem runIN_2_true_true_true_false : runIN 2 (.str 3 2826272) (.str 4 757800992) true true true false true = true := by kernel_rfl
theorem runIN_2_true_true_true_true : runIN 2 (.str 3 2826272) (.str 4 757800992) true true true true false = true := by kernel_rfl
end Go.Exe
