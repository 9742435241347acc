/- A part of an executor of the model over abstract values, and what it tells of the calls. -/
import Derived.Test.YtbaaogkpkgffdaaGreatDoorA2
namespace Go.Exe
open Go Go.RowKit Go.Proofs
theorem awake13_run : isTrue (callAt Tb2.tt Tb2.ft orcB 60 18 .nil (hG 0)) = true := by kernel_rfl
section
variable [Env]
theorem awake13_ok {h : Hp} (hasc : ascOk 0 h = true) : FnOk Tryz.prog 18 ∧ CallOk Tryz.prog 18 .nil h (.bool true) h := by
  obtain ⟨h', e⟩ := isTrue_inv awake13_run
  exact small_call (callAt_sound Tb2.tt_ok hm2 Tb2.ft_ok orcB_ok 60) (by decide) e (fun _ _ _ h => h) (fun _ _ _ h => h) hasc
theorem awk13 {args : AV} {h : Hp} {x : AV} {h' : Hp} (e : orcOne 0 .nil (.bool true) args h = .val x h') : FnOk Tryz.prog 18 ∧ CallOk Tryz.prog 18 args h x h' := orcOne_ok (fun _ ha => awake13_ok ha) e
end
end Go.Exe
