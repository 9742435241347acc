/- A part of an executor of the model over abstract values, and what it tells of the calls. -/
import Derived.Test.YtkajemhmmecimaaDoorA1
namespace Go.Exe
open Go Go.RowKit Go.Proofs
/-- what PropWides calls: Lower, Round (at its two arguments), awake -/
noncomputable def orcW (r i : Nat) (f : Nat) : Option (AV → Hp → CR) := sel (Nat.beq f 44) (some orcLow) (sel (Nat.beq f 11) (some (orcTab (.cons (.cons (sy 0) (.cons (.int .i64 (.ofNat 8)) .nil), .int .i64 (.ofNat r)) (.cons (.cons (sy 1) (.cons (.int .i64 (.ofNat 3)) .nil), .int .i64 (.ofNat i)) .nil)))) (sel (Nat.beq f 13) (some (orcOne 0 .nil (.bool true))) none))
noncomputable def argsW (b : Bool) : AV := .cons (sy 0) (.cons (sy 1) (.cons (.bool b) .nil))
noncomputable def runW (r i : Nat) (b : Bool) : Bool := isTrue (callAt Tb1.tt Tb1.ft (orcW r i) 60 3 (argsW b) (hG 0))
end Go.Exe
