/- A part of an executor of the model over abstract values, and what it tells of the calls. -/
import Derived.Test.YtbaaogkpkgffdaaGreatDoorA2
namespace Go.Exe
open Go Go.RowKit Go.Proofs
noncomputable def orcCQ (r0 : Nat) (f : Nat) : Option (AV → Hp → CR) := sel (Nat.beq f 82) (some orcLow) (sel (Nat.beq f 19) (some (orcTab (.cons (.cons (sy 0) (.cons (.int .i64 (.ofNat 6)) .nil), .int .i64 (.ofNat r0)) .nil))) (sel (Nat.beq f 18) (some (orcOne 0 .nil (.bool true))) (sel (Nat.beq f 98) (some (orcFields 0)) none)))
noncomputable def argsCQ : AV := (.cons (sy 0) .nil)
noncomputable def runCQ (r0 : Nat) : Bool := isTrue (callAt Tb2.tt Tb2.ft (orcCQ r0) 60 6 (argsCQ) (hG 0))
end Go.Exe
