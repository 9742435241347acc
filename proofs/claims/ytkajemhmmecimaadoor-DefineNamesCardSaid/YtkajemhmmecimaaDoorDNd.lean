/- A part of an executor of the model over abstract values, and what it tells of the calls. -/
import Derived.Test.YtkajemhmmecimaaDoorA1
namespace Go.Exe
open Go Go.RowKit Go.Proofs
noncomputable def orcDN (r0 r1 : Nat) (f : Nat) : Option (AV → Hp → CR) := sel (Nat.beq f 44) (some orcLow) (sel (Nat.beq f 11) (some (orcTab (.cons (.cons (sy 0) (.cons (.int .i64 (.ofNat 12)) .nil), .int .i64 (.ofNat r0)) (.cons (.cons (sy 1) (.cons (.int .i64 (.ofNat 4)) .nil), .int .i64 (.ofNat r1)) .nil)))) (sel (Nat.beq f 21) (some (orcOne 0 .nil (.bool true))) none))
noncomputable def argsDN : AV := (.cons (sy 0) (.cons (sy 1) .nil))
noncomputable def runDN (r0 r1 : Nat) : Bool := isTrue (callAt Tb1.tt Tb1.ft (orcDN r0 r1) 60 8 (argsDN) (hG 0))
end Go.Exe
