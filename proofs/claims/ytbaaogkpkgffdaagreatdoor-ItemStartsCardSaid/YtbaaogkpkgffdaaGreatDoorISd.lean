/- A part of an executor of the model over abstract values, and what it tells of the calls. -/
import Derived.Test.YtbaaogkpkgffdaaGreatDoorIn
import Derived.Test.YtbaaogkpkgffdaaGreatDoorFx
namespace Go.Exe
open Go Go.RowKit Go.Proofs
noncomputable def tabDec : List (AV × AV) := .cons (.cons (sy 0) .nil, sys 5) .nil
noncomputable def tabNum : List (AV × AV) := .cons (.cons (sys 5) .nil, .tup (.cons (sy 0) (.cons (.bool true) .nil))) (.cons (.cons (.str 0 0) .nil, .tup (.cons (.int .i64 (.ofNat 0)) (.cons (.bool false) .nil))) .nil)
noncomputable def orcIS (f : Nat) : Option (AV → Hp → CR) := sel (Nat.beq f 20) (some (orcTab tabDec)) (sel (Nat.beq f 42) (some (orcTab tabNum)) (sel (Nat.beq f 41) (some (orcOne 0 .nil (.bool true))) (orcI f)))
noncomputable def factsIS : FK → AV → Option AV := facts (.cons (.bin .lss 3, .cons (sy 0) (.cons (.int .i64 (-1073741824)) .nil), .bool false) (.cons (.bin .gtr 3, .cons (sy 0) (.cons (.int .i64 1073741824) .nil), .bool false)
  (.cons (.bin .add 3, .cons (sy 0) (.cons (.int .i64 1) .nil), sy 1) (.cons (.bin .sub 3, .cons (sy 0) (.cons (.int .i64 1) .nil), sy 2) (.cons (.min, .cons (sy 0) (.cons (.int .i64 2147483646) .nil), sy 0) (.cons (.max, .cons (sy 0) (.cons (.int .i64 (-2147483647)) .nil), sy 0) .nil))))))
noncomputable def argsIS (n : Nat) (said rev own : Bool) : AV := .cons (.int .i64 (.ofNat n)) (.cons (sy 0) (.cons (.bool said) (.cons (.bool rev) (.cons (.bool own) .nil))))
noncomputable def runIS (n : Nat) (said rev own : Bool) : Bool := isTrue (callAt ⟨Tb2.tt.t, factsIS⟩ Tb2.ft orcIS 60 12 (argsIS n said rev own) (hG 0))
/-- where a number is out of range -/
noncomputable def factsO (a b c d : Bool) : FK → AV → Option AV := facts (.cons (.bin .lss 3, .cons (sy 6) (.cons (.int .i64 0) .nil), .bool a) (.cons (.bin .gtr 3, .cons (sy 6) (.cons (.int .i64 15) .nil), .bool b)
  (.cons (.bin .lss 3, .cons (sy 0) (.cons (.int .i64 (-1073741824)) .nil), .bool c) (.cons (.bin .gtr 3, .cons (sy 0) (.cons (.int .i64 1073741824) .nil), .bool d) .nil))))
noncomputable def runISo (a b c d said rev own : Bool) : Bool := isTrue (callAt ⟨Tb2.tt.t, factsO a b c d⟩ Tb2.ft orcIS 60 12 (.cons (sy 6) (.cons (sy 0) (.cons (.bool said) (.cons (.bool rev) (.cons (.bool own) .nil))))) (hG 0))
end Go.Exe
