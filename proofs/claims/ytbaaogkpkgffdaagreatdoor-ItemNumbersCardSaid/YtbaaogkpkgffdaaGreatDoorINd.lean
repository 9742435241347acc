/- ItemNumbers: what is told of the text behind, and the runs. -/
import Derived.Test.YtbaaogkpkgffdaaGreatDoorIn
import Derived.Test.YtbaaogkpkgffdaaGreatDoorFs
namespace Go.Exe
open Go Go.RowKit Go.Proofs
noncomputable def u8s (i : Int) : AV := .cons (.int .u8 i) .nil
noncomputable def tabD1 : List (AV × AV) := .cons (.cons (sy 0) .nil, sys 1) .nil
noncomputable def tabN2 : List (AV × AV) := .cons (.cons (sys 3) .nil, .tup (.cons (sy 7) (.cons (.bool true) .nil))) (.cons (.cons (sys 9) .nil, .tup (.cons (sy 11) (.cons (.bool false) .nil))) .nil)
noncomputable def orcIN (f : Nat) : Option (AV → Hp → CR) := sel (Nat.beq f 20) (some (orcTab tabD1)) (sel (Nat.beq f 42) (some (orcTab tabN2)) (sel (Nat.beq f 41) (some (orcOne 0 .nil (.bool true))) none))
/-- what is told of the text behind: its length, and its first byte where there is one -/
noncomputable def factsT (o3 p a b : Bool) (r : List (FK × AV × AV)) : List (FK × AV × AV) := .cons (.len 9, .cons (sys 4) .nil, sy 5) (.cons (.bin .gtr 3, .cons (sy 5) (.cons (.int .i64 20) .nil), .bool o3) (.cons (.bin .gtr 3, .cons (sy 5) (.cons (.int .i64 0) .nil), .bool p)
  (sel p (.cons (.index 9, .cons (sys 4) (.cons (.int .i64 (.ofNat 0)) .nil), u8s 6) (.cons (.bin .geq 5, .cons (u8s 6) (.cons (.int .u8 48) .nil), .bool a) (.cons (.bin .leq 5, .cons (u8s 6) (.cons (.int .u8 57) .nil), .bool b) r))) r)))
noncomputable def factsB (x y : AV) (g : Bool) : List (FK × AV × AV) := .cons (.bin .geq 3, .cons (sy 0) (.cons (.int .i64 0) .nil), .bool g) (.cons (.bin .add 9, .cons x (.cons (sys 1) .nil), sys 2) (.cons (.bin .add 9, .cons (sys 2) (.cons (sys 4) .nil), sys 3) (.cons (.bin .add 9, .cons y (.cons (sys 4) .nil), sys 9)
  (.cons (.min, .cons (sy 0) (.cons (.int .i64 2147483647) .nil), sy 8) (.cons (.max, .cons (sy 8) (.cons (.int .i64 (-2147483648)) .nil), sy 7) .nil)))))
noncomputable def runIN (k : Nat) (x y : AV) (plus g p a b : Bool) : Bool := isTrue (callAt ⟨Tb2.tt.t, facts (factsT false p a b (factsB x y g))⟩ Tb2.ft orcIN 60 11 (.cons (sy 0) (.cons (.int .i64 (.ofNat k)) (.cons (.bool plus) (.cons (sys 4) .nil)))) (hG 0))
noncomputable def orcA16 (f : Nat) : Option (AV → Hp → CR) := sel (Nat.beq f 41) (some (orcOne 0 .nil (.bool true))) none
noncomputable def runIO (o1 o2 o3 p a b : Bool) (plus : Bool) : Bool := isTrue (callAt ⟨Tb2.tt.t, facts (.cons (.bin .lss 3, .cons (sy 10) (.cons (.int .i64 0) .nil), .bool o1) (.cons (.bin .gtr 3, .cons (sy 10) (.cons (.int .i64 5) .nil), .bool o2) (factsT o3 p a b .nil)))⟩ Tb2.ft orcA16 60 11 (.cons (sy 0) (.cons (sy 10) (.cons (.bool plus) (.cons (sys 4) .nil)))) (hG 0))
end Go.Exe
