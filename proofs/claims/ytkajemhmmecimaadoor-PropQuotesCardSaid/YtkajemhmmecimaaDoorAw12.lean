/- awake of fleuronlaw12 returns true and leaves all that was there; the table strings.asciiSpace is as the program's text lays it. -/
import Derived.Test.YtkajemhmmecimaaDoorA1
namespace Go.Exe
open Go Go.RowKit Go.Proofs
theorem awake12_run : isTrue (callAt Tb1.tt Tb1.ft orcA 60 13 .nil (hG 0)) = true := by kernel_rfl
section
variable [Env]
theorem awake12_ok {h : Hp} (hasc : ascOk 0 h = true) : FnOk Tryd.prog 13 ∧ CallOk Tryd.prog 13 .nil h (.bool true) h := by
  obtain ⟨h', e⟩ := isTrue_inv awake12_run
  exact small_call (callAt_sound Tb1.tt_ok hm1 Tb1.ft_ok orcA_ok 60) (by decide) e (fun _ _ _ h => h) (fun _ _ _ h => h) hasc
theorem awk12 {args : AV} {h : Hp} {x : AV} {h' : Hp} (e : orcOne 0 .nil (.bool true) args h = .val x h') : FnOk Tryd.prog 13 ∧ CallOk Tryd.prog 13 args h x h' := orcOne_ok (fun _ ha => awake12_ok ha) e
end
end Go.Exe
