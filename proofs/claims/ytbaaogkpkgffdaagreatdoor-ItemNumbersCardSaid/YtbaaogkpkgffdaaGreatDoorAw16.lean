/- A part of an executor of the model over abstract values, and what it tells of the calls. -/
import Derived.Test.YtbaaogkpkgffdaaGreatDoorIn
namespace Go.Exe
open Go Go.RowKit Go.Proofs
theorem awake16_run : isTrue (callAt Tb2.tt Tb2.ft orcI 60 41 .nil (hG 0)) = true := by kernel_rfl
section
variable [Env]
theorem awake16_ok {h : Hp} (hasc : ascOk 0 h = true) : FnOk Tryz.prog 41 ∧ CallOk Tryz.prog 41 .nil h (.bool true) h := by
  obtain ⟨h', e⟩ := isTrue_inv awake16_run
  exact small_call (callAt_sound Tb2.tt_ok hm2 Tb2.ft_ok orcI_ok 60) (by decide) e (fun _ _ _ h => h) (fun _ _ _ h => h) hasc
theorem awk16 {args : AV} {h : Hp} {x : AV} {h' : Hp} (e : orcOne 0 .nil (.bool true) args h = .val x h') : FnOk Tryz.prog 41 ∧ CallOk Tryz.prog 41 args h x h' := orcOne_ok (fun _ ha => awake16_ok ha) e
end
end Go.Exe
