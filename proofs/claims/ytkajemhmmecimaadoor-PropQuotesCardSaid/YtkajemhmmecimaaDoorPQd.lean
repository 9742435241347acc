/- A part of an executor of the model over abstract values, and what it tells of the calls. -/
import Derived.Test.YtkajemhmmecimaaDoorA1
import Derived.Test.YtkajemhmmecimaaDoorX24
namespace Go.Exe
open Go Go.RowKit Go.Proofs
noncomputable def orcQ (r : Nat) (f : Nat) : Option (AV → Hp → CR) := sel (Nat.beq f 44) (some orcLow) (sel (Nat.beq f 11) (some (orcTab (.cons (.cons (sy 0) (.cons (.int .i64 (.ofNat 4)) .nil), .int .i64 (.ofNat r)) .nil))) (sel (Nat.beq f 13) (some (orcOne 0 .nil (.bool true))) none))
noncomputable def argsQ (n : Nat) : AV := .cons (.int .i64 (.ofNat n)) (.cons (sy 0) .nil)
noncomputable def runQ (n r : Nat) : Bool := isTrue (callAt Tb1.tt Tb1.ft (orcQ r) 60 4 (argsQ n) (hG 0))
/-- what is known of a number of quotes that is out of range -/
noncomputable def factsQt : FK → AV → Option AV := facts (.cons (.bin .lss 3, .cons (sy 1) (.cons (.int .i64 (.ofNat 0)) .nil), .bool true) .nil)
noncomputable def factsQf : FK → AV → Option AV := facts (.cons (.bin .lss 3, .cons (sy 1) (.cons (.int .i64 (.ofNat 0)) .nil), .bool false) (.cons (.bin .gtr 3, .cons (sy 1) (.cons (.int .i64 (.ofNat 40)) .nil), .bool true) .nil))
noncomputable def runQo (F : FK → AV → Option AV) : Bool := isTrue (callAt ⟨Tb1.tt.t, F⟩ Tb1.ft (orcQ 0) 60 4 (.cons (sy 1) (.cons (sy 2) .nil)) (hG 0))
end Go.Exe
