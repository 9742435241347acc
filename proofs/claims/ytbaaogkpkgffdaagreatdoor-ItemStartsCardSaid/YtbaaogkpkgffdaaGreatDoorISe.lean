/- A part of an executor of the model over abstract values, and what it tells of the calls. -/
import Derived.Test.YtbaaogkpkgffdaaGreatDoorISd
import Derived.Test.YtbaaogkpkgffdaaGreatDoorAw16
namespace Go.Exe
open Go Go.RowKit Go.Proofs
noncomputable def orcO (f : Nat) : Option (AV → Hp → CR) := sel (Nat.beq f 41) (some (orcOne 0 .nil (.bool true))) none
section
variable [Env]
theorem orcO_ok : OrcOk Tryz.prog orcO := by
  intro f g e args h a h' hg
  unfold orcO at e
  cases b3 : Nat.beq f 41 with
  | true => rw [b3] at e; cases e; rw [Nat.eq_of_beq_eq_true b3]; exact awk16 hg
  | false => rw [b3] at e; cases e
end
noncomputable def runISp (a b c d said rev own : Bool) : Bool := isTrue (callAt ⟨Tb2.tt.t, factsO a b c d⟩ Tb2.ft orcO 60 12 (.cons (sy 6) (.cons (sy 0) (.cons (.bool said) (.cons (.bool rev) (.cons (.bool own) .nil))))) (hG 0))
theorem runISp_true_false_false_false_false_false_false : runISp true false false false false false false = true := by kernel_rfl
theorem runISp_true_false_false_false_false_false_true : runISp true false false false false false true = true := by kernel_rfl
theorem runISp_true_false_false_false_false_true_false : runISp true false false false false true false = true := by kernel_rfl
theorem runISp_true_false_false_false_false_true_true : runISp true false false false false true true = true := by kernel_rfl
theorem runISp_true_false_false_false_true_false_false : runISp true false false false true false false = true := by kernel_rfl
theorem runISp_true_false_false_false_true_false_true : runISp true false false false true false true = true := by kernel_rfl
theorem runISp_true_false_false_false_true_true_false : runISp true false false false true true false = true := by kernel_rfl
theorem runISp_true_false_false_false_true_true_true : runISp true false false false true true true = true := by kernel_rfl
theorem runISp_true_false_true_false_false_false_false : runISp true false true false false false false = true := by kernel_rfl
theorem runISp_true_false_true_false_false_false_true : runISp true false true false false false true = true := by kernel_rfl
theorem runISp_true_false_true_false_false_true_false : runISp true false true false false true false = true := by kernel_rfl
theorem runISp_true_false_true_false_false_true_true : runISp true false true false false true true = true := by kernel_rfl
theorem runISp_true_false_true_false_true_false_false : runISp true false true false true false false = true := by kernel_rfl
theorem runISp_true_false_true_false_true_false_true : runISp true false true false true false true = true := by kernel_rfl
theorem runISp_true_false_true_false_true_true_false : runISp true false true false true true false = true := by kernel_rfl
theorem runISp_true_false_true_false_true_true_true : runISp true false true false true true true = true := by kernel_rfl
theorem runISp_true_false_false_true_false_false_false : runISp true false false true false false false = true := by kernel_rfl
theorem runISp_true_false_false_true_false_false_true : runISp true false false true false false true = true := by kernel_rfl
theorem runISp_true_false_false_true_false_true_false : runISp true false false true false true false = true := by kernel_rfl
theorem runISp_true_false_false_true_false_true_true : runISp true false false true false true true = true := by kernel_rfl
theorem runISp_true_false_false_true_true_false_false : runISp true false false true true false false = true := by kernel_rfl
theorem runISp_true_false_false_true_true_false_true : runISp true false false true true false true = true := by kernel_rfl
theorem runISp_true_false_false_true_true_true_false : runISp true false false true true true false = true := by kernel_rfl
theorem runISp_true_false_false_true_true_true_true : runISp true false false true true true true = true := by kernel_rfl
theorem runISp_false_true_false_false_false_false_false : runISp false true false false false false false = true := by kernel_rfl
theorem runISp_false_true_false_false_false_false_true : runISp false true false false false false true = true := by kernel_rfl
theorem runISp_false_true_false_false_false_true_false : runISp false true false false false true false = true := by kernel_rfl
theorem runISp_false_true_false_false_false_true_true : runISp false true false false false true true = true := by kernel_rfl
theorem runISp_false_true_false_false_true_false_false : runISp false true false false true false false = true := by kernel_rfl
theorem runISp_false_true_false_false_true_false_true : runISp false true false false true false true = true := by kernel_rfl
theorem runISp_false_true_false_false_true_true_false : runISp false true false false true true false = true := by kernel_rfl
theorem runISp_false_true_false_false_true_true_true : runISp false true false false true true true = true := by kernel_rfl
theorem runISp_false_true_true_false_false_false_false : runISp false true true false false false false = true := by kernel_rfl
theorem runISp_false_true_true_false_false_false_true : runISp false true true false false false true = true := by kernel_rfl
theorem runISp_false_true_true_false_false_true_false : runISp false true true false false true false = true := by kernel_rfl
theorem runISp_false_true_true_false_false_true_true : runISp false true true false false true true = true := by kernel_rfl
theorem runISp_false_true_true_false_true_false_false : runISp false true true false true false false = true := by kernel_rfl
theorem runISp_false_true_true_false_true_false_true : runISp false true true false true false true = true := by kernel_rfl
theorem runISp_false_true_true_false_true_true_false : runISp false true true false true true false = true := by kernel_rfl
theorem runISp_false_true_true_false_true_true_true : runISp false true true false true true true = true := by kernel_rfl
theorem runISp_false_true_false_true_false_false_false : runISp false true false true false false false = true := by kernel_rfl
theorem runISp_false_true_false_true_false_false_true : runISp false true false true false false true = true := by kernel_rfl
theorem runISp_false_true_false_true_false_true_false : runISp false true false true false true false = true := by kernel_rfl
theorem runISp_false_true_false_true_false_true_true : runISp false true false true false true true = true := by kernel_rfl
theorem runISp_false_true_false_true_true_false_false : runISp false true false true true false false = true := by kernel_rfl
theorem runISp_false_true_false_true_true_false_true : runISp false true false true true false true = true := by kernel_rfl
theorem runISp_false_true_false_true_true_true_false : runISp false true false true true true false = true := by kernel_rfl
theorem runISp_false_true_false_true_true_true_true : runISp false true false true true true true = true := by kernel_rfl
theorem runISp_false_false_true_false_false_false_false : runISp false false true false false false false = true := by kernel_rfl
theorem runISp_false_false_true_false_false_false_true : runISp false false true false false false true = true := by kernel_rfl
theorem runISp_false_false_true_false_false_true_false : runISp false false true false false true false = true := by kernel_rfl
theorem runISp_false_false_true_false_false_true_true : runISp false false true false false true true = true := by kernel_rfl
theorem runISp_false_false_true_false_true_false_false : runISp false false true false true false false = true := by kernel_rfl
theorem runISp_false_false_true_false_true_false_true : runISp false false true false true false true = true := by kernel_rfl
theorem runISp_false_false_true_false_true_true_false : runISp false false true false true true false = true := by kernel_rfl
theorem runISp_false_false_true_false_true_true_true : runISp false false true false true true true = true := by kernel_rfl
theorem runISp_false_false_false_true_false_false_false : runISp false false false true false false false = true := by kernel_rfl
theorem runISp_false_false_false_true_false_false_true : runISp false false false true false false true = true := by kernel_rfl
theorem runISp_false_false_false_true_false_true_false : runISp false false false true false true false = true := by kernel_rfl
theorem runISp_false_false_false_true_false_true_true : runISp false false false true false true true = true := by kernel_rfl
theorem runISp_false_false_false_true_true_false_false : runISp false false false true true false false = true := by kernel_rfl
theorem runISp_false_false_false_true_true_false_true : runISp false false false true true false true = true := by kernel_rfl
theorem runISp_false_false_false_true_true_true_false : runISp false false false true true true false = true := by kernel_rfl
theorem runISp_false_false_false_true_true_true_true : runISp false false false true true true true = true := by kernel_rfl
theorem runISp_all (a b c d : Bool) (h : (a || b || c || d) = true) (hab : (a && b) = false) (hcd : (c && d) = false) (x y z : Bool) : runISp a b c d x y z = true := by
  cases a <;> cases b <;> cases c <;> cases d <;> first | (cases h; done) | (cases hab; done) | (cases hcd; done) | skip
  · cases x <;> cases y <;> cases z
    · exact runISp_false_false_false_true_false_false_false
    · exact runISp_false_false_false_true_false_false_true
    · exact runISp_false_false_false_true_false_true_false
    · exact runISp_false_false_false_true_false_true_true
    · exact runISp_false_false_false_true_true_false_false
    · exact runISp_false_false_false_true_true_false_true
    · exact runISp_false_false_false_true_true_true_false
    · exact runISp_false_false_false_true_true_true_true
  · cases x <;> cases y <;> cases z
    · exact runISp_false_false_true_false_false_false_false
    · exact runISp_false_false_true_false_false_false_true
    · exact runISp_false_false_true_false_false_true_false
    · exact runISp_false_false_true_false_false_true_true
    · exact runISp_false_false_true_false_true_false_false
    · exact runISp_false_false_true_false_true_false_true
    · exact runISp_false_false_true_false_true_true_false
    · exact runISp_false_false_true_false_true_true_true
  · cases x <;> cases y <;> cases z
    · exact runISp_false_true_false_false_false_false_false
    · exact runISp_false_true_false_false_false_false_true
    · exact runISp_false_true_false_false_false_true_false
    · exact runISp_false_true_false_false_false_true_true
    · exact runISp_false_true_false_false_true_false_false
    · exact runISp_false_true_false_false_true_false_true
    · exact runISp_false_true_false_false_true_true_false
    · exact runISp_false_true_false_false_true_true_true
  · cases x <;> cases y <;> cases z
    · exact runISp_false_true_false_true_false_false_false
    · exact runISp_false_true_false_true_false_false_true
    · exact runISp_false_true_false_true_false_true_false
    · exact runISp_false_true_false_true_false_true_true
    · exact runISp_false_true_false_true_true_false_false
    · exact runISp_false_true_false_true_true_false_true
    · exact runISp_false_true_false_true_true_true_false
    · exact runISp_false_true_false_true_true_true_true
  · cases x <;> cases y <;> cases z
    · exact runISp_false_true_true_false_false_false_false
    · exact runISp_false_true_true_false_false_false_true
    · exact runISp_false_true_true_false_false_true_false
    · exact runISp_false_true_true_false_false_true_true
    · exact runISp_false_true_true_false_true_false_false
    · exact runISp_false_true_true_false_true_false_true
    · exact runISp_false_true_true_false_true_true_false
    · exact runISp_false_true_true_false_true_true_true
  · cases x <;> cases y <;> cases z
    · exact runISp_true_false_false_false_false_false_false
    · exact runISp_true_false_false_false_false_false_true
    · exact runISp_true_false_false_false_false_true_false
    · exact runISp_true_false_false_false_false_true_true
    · exact runISp_true_false_false_false_true_false_false
    · exact runISp_true_false_false_false_true_false_true
    · exact runISp_true_false_false_false_true_true_false
    · exact runISp_true_false_false_false_true_true_true
  · cases x <;> cases y <;> cases z
    · exact runISp_true_false_false_true_false_false_false
    · exact runISp_true_false_false_true_false_false_true
    · exact runISp_true_false_false_true_false_true_false
    · exact runISp_true_false_false_true_false_true_true
    · exact runISp_true_false_false_true_true_false_false
    · exact runISp_true_false_false_true_true_false_true
    · exact runISp_true_false_false_true_true_true_false
    · exact runISp_true_false_false_true_true_true_true
  · cases x <;> cases y <;> cases z
    · exact runISp_true_false_true_false_false_false_false
    · exact runISp_true_false_true_false_false_false_true
    · exact runISp_true_false_true_false_false_true_false
    · exact runISp_true_false_true_false_false_true_true
    · exact runISp_true_false_true_false_true_false_false
    · exact runISp_true_false_true_false_true_false_true
    · exact runISp_true_false_true_false_true_true_false
    · exact runISp_true_false_true_false_true_true_true
end Go.Exe
