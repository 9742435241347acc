/- ItemNumbers: runs, the second half, and those out of the bounds. -/
import Derived.Test.YtbaaogkpkgffdaaGreatDoorINd
namespace Go.Exe
set_option maxRecDepth 100000
theorem runIN_3_false_false_false_false : runIN 3 (.str 3 598048) (.str 4 755572768) false false false false false = true := by kernel_rfl
theorem runIN_3_false_false_true_false : runIN 3 (.str 3 598048) (.str 4 755572768) false false true false true = true := by kernel_rfl
theorem runIN_3_false_false_true_true : runIN 3 (.str 3 598048) (.str 4 755572768) false false true true false = true := by kernel_rfl
theorem runIN_3_false_true_false_false : runIN 3 (.str 3 598048) (.str 4 755572768) false true false false false = true := by kernel_rfl
theorem runIN_3_false_true_true_false : runIN 3 (.str 3 598048) (.str 4 755572768) false true true false true = true := by kernel_rfl
theorem runIN_3_false_true_true_true : runIN 3 (.str 3 598048) (.str 4 755572768) false true true true false = true := by kernel_rfl
theorem runIN_3_true_false_false_false : runIN 3 (.str 3 598048) (.str 4 755572768) true false false false false = true := by kernel_rfl
theorem runIN_3_true_false_true_false : runIN 3 (.str 3 598048) (.str 4 755572768) true false true false true = true := by kernel_rfl
theorem runIN_3_true_false_true_true : runIN 3 (.str 3 598048) (.str 4 755572768) true false true true false = true := by kernel_rfl
theorem runIN_3_true_true_false_false : runIN 3 (.str 4 722018336) (.str 5 193995546656) true true false false false = true := by kernel_rfl
theorem runIN_3_true_true_true_false : runIN 3 (.str 4 722018336) (.str 5 193995546656) true true true false true = true := by kernel_rfl
theorem runIN_3_true_true_true_true : runIN 3 (.str 4 722018336) (.str 5 193995546656) true true true true false = true := by kernel_rfl
theorem runIN_4_false_false_false_false : runIN 4 (.str 4 537468960) (.str 5 193810997280) false false false false false = true := by kernel_rfl
theorem runIN_4_false_false_true_false : runIN 4 (.str 4 537468960) (.str 5 193810997280) false false true false true = true := by kernel_rfl
theorem runIN_4_false_false_true_true : runIN 4 (.str 4 537468960) (.str 5 193810997280) false false true true false = true := by kernel_rfl
theorem runIN_4_false_true_false_false : runIN 4 (.str 4 537468960) (.str 5 193810997280) false true false false false = true := by kernel_rfl
theorem runIN_4_false_true_true_false : runIN 4 (.str 4 537468960) (.str 5 193810997280) false true true false true = true := by kernel_rfl
theorem runIN_4_false_true_true_true : runIN 4 (.str 4 537468960) (.str 5 193810997280) false true true true false = true := by kernel_rfl
theorem runIN_4_true_false_false_false : runIN 4 (.str 4 537468960) (.str 5 193810997280) true false false false false = true := by kernel_rfl
theorem runIN_4_true_false_true_false : runIN 4 (.str 4 537468960) (.str 5 193810997280) true false true false true = true := by kernel_rfl
theorem runIN_4_true_false_true_true : runIN 4 (.str 4 537468960) (.str 5 193810997280) true false true true false = true := by kernel_rfl
theorem runIN_4_true_true_false_false : runIN 4 (.str 5 185221062688) (.str 6 49663244312608) true true false false false = true := by kernel_rfl
theorem runIN_4_true_true_true_false : runIN 4 (.str 5 185221062688) (.str 6 49663244312608) true true true false true = true := by kernel_rfl
theorem runIN_4_true_true_true_true : runIN 4 (.str 5 185221062688) (.str 6 49663244312608) true true true true false = true := by kernel_rfl
theorem runIN_5_false_false_false_false : runIN 5 (.str 5 43487141920) (.str 6 49521510391840) false false false false false = true := by kernel_rfl
theorem runIN_5_false_false_true_false : runIN 5 (.str 5 43487141920) (.str 6 49521510391840) false false true false true = true := by kernel_rfl
theorem runIN_5_false_false_true_true : runIN 5 (.str 5 43487141920) (.str 6 49521510391840) false false true true false = true := by kernel_rfl
theorem runIN_5_false_true_false_false : runIN 5 (.str 5 43487141920) (.str 6 49521510391840) false true false false false = true := by kernel_rfl
theorem runIN_5_false_true_true_false : runIN 5 (.str 5 43487141920) (.str 6 49521510391840) false true true false true = true := by kernel_rfl
theorem runIN_5_false_true_true_true : runIN 5 (.str 5 43487141920) (.str 6 49521510391840) false true true true false = true := by kernel_rfl
theorem runIN_5_true_false_false_false : runIN 5 (.str 5 43487141920) (.str 6 49521510391840) true false false false false = true := by kernel_rfl
theorem runIN_5_true_false_true_false : runIN 5 (.str 5 43487141920) (.str 6 49521510391840) true false true false true = true := by kernel_rfl
theorem runIN_5_true_false_true_true : runIN 5 (.str 5 43487141920) (.str 6 49521510391840) true false true true false = true := by kernel_rfl
theorem runIN_5_true_true_false_false : runIN 5 (.str 6 47322487136288) (.str 7 12713696439115808) true true false false false = true := by kernel_rfl
theorem runIN_5_true_true_true_false : runIN 5 (.str 6 47322487136288) (.str 7 12713696439115808) true true true false true = true := by kernel_rfl
theorem runIN_5_true_true_true_true : runIN 5 (.str 6 47322487136288) (.str 7 12713696439115808) true true true true false = true := by kernel_rfl
theorem runIO_false_true_false_false_false_false_false : runIO false true false false false false false = true := by kernel_rfl
theorem runIO_false_true_false_false_false_false_true : runIO false true false false false false true = true := by kernel_rfl
theorem runIO_true_false_false_false_false_false_false : runIO true false false false false false false = true := by kernel_rfl
theorem runIO_true_false_false_false_false_false_true : runIO true false false false false false true = true := by kernel_rfl
theorem runIO_false_false_false_true_true_true_false : runIO false false false true true true false = true := by kernel_rfl
theorem runIO_false_false_false_true_true_true_true : runIO false false false true true true true = true := by kernel_rfl
theorem runIO_false_false_true_true_false_true_false : runIO false false true true false true false = true := by kernel_rfl
theorem runIO_false_false_true_true_false_true_true : runIO false false true true false true true = true := by kernel_rfl
theorem runIO_false_false_true_true_true_false_false : runIO false false true true true false false = true := by kernel_rfl
theorem runIO_false_false_true_true_true_false_true : runIO false false true true true false true = true := by kernel_rfl
theorem runIO_false_false_true_true_true_true_false : runIO false false true true true true false = true := by kernel_rfl
theorem runIO_false_false_true_true_true_true_true : runIO false false true true true true true = true := by kernel_rfl
theorem runIO_false_true_false_true_false_true_false : runIO false true false true false true false = true := by kernel_rfl
theorem runIO_false_true_false_true_false_true_true : runIO false true false true false true true = true := by kernel_rfl
theorem runIO_false_true_false_true_true_false_false : runIO false true false true true false false = true := by kernel_rfl
theorem runIO_false_true_false_true_true_false_true : runIO false true false true true false true = true := by kernel_rfl
theorem runIO_false_true_false_true_true_true_false : runIO false true false true true true false = true := by kernel_rfl
theorem runIO_false_true_false_true_true_true_true : runIO false true false true true true true = true := by kernel_rfl
theorem runIO_false_true_true_true_false_true_false : runIO false true true true false true false = true := by kernel_rfl
theorem runIO_false_true_true_true_false_true_true : runIO false true true true false true true = true := by kernel_rfl
theorem runIO_false_true_true_true_true_false_false : runIO false true true true true false false = true := by kernel_rfl
theorem runIO_false_true_true_true_true_false_true : runIO false true true true true false true = true := by kernel_rfl
theorem runIO_false_true_true_true_true_true_false : runIO false true true true true true false = true := by kernel_rfl
theorem runIO_false_true_true_true_true_true_true : runIO false true true true true true true = true := by kernel_rfl
theorem runIO_true_false_false_true_false_true_false : runIO true false false true false true false = true := by kernel_rfl
theorem runIO_true_false_false_true_false_true_true : runIO true false false true false true true = true := by kernel_rfl
theorem runIO_true_false_false_true_true_false_false : runIO true false false true true false false = true := by kernel_rfl
theorem runIO_true_false_false_true_true_false_true : runIO true false false true true false true = true := by kernel_rfl
theorem runIO_true_false_false_true_true_true_false : runIO true false false true true true false = true := by kernel_rfl
theorem runIO_true_false_false_true_true_true_true : runIO true false false true true true true = true := by kernel_rfl
theorem runIO_true_false_true_true_false_true_false : runIO true false true true false true false = true := by kernel_rfl
theorem runIO_true_false_true_true_false_true_true : runIO true false true true false true true = true := by kernel_rfl
theorem runIO_true_false_true_true_true_false_false : runIO true false true true true false false = true := by kernel_rfl
theorem runIO_true_false_true_true_true_false_true : runIO true false true true true false true = true := by kernel_rfl
theorem runIO_true_false_true_true_true_true_false : runIO true false true true true true false = true := by kernel_rfl
theorem runIO_true_false_true_true_true_true_true : runIO true false true true true true true = true := by kernel_rfl
end Go.Exe
