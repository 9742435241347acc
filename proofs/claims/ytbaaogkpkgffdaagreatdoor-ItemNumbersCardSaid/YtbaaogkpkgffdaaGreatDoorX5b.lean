/- A part of an executor of the model over abstract values, and what it tells of the calls. -/
import Derived.Test.YtbaaogkpkgffdaaGreatDoorX5
namespace Go.Exe
open Go

def aggD : TypeDesc → Bool
  | .struct _ | .array .. => true
  | _ => false

/-! ### equality: what kinds of cells a type has -/
def ckOf (P : Program) (t : TypeId) : Option CK :=
  match P.underlying t with
  | some .bool => some .bool
  | some (.int _) => some .int
  | some .string => some .str
  | some (.pointer e) => if P.cellsOf e = 0 then none else some .ptr
  | _ => none

def flatF (P : Program) (g : TypeId → Option (List CK)) : List Field → Nat → Option (List CK)
  | [], _ => some []
  | f :: fs, acc =>
    if f.name = "_" ∨ f.offset ≠ acc then none else
    match g f.type with
    | none => none
    | some ks => match flatF P g fs (acc + P.cellsOf f.type) with
      | none => none
      | some ls => some (ks ++ ls)

def repK (ks : List CK) : Nat → List CK
  | 0 => []
  | n + 1 => ks ++ repK ks n

def flatK (P : Program) : Nat → TypeId → Option (List CK)
  | 0, _ => none
  | d + 1, t =>
    match P.underlying t with
    | some (.struct fs) => if P.stoodInHeld t then none else match flatF P (flatK P d) fs.toList 0 with
      | some ks => if ks.length = P.cellsOf t then some ks else none
      | none => none
    | some (.array n e) => match flatK P d e with
      | some ks => if (repK ks n).length = P.cellsOf t then some (repK ks n) else none
      | none => none
    | _ => match ckOf P t with
      | some c => if P.cellsOf t = 1 then some [c] else none
      | none => none

end Go.Exe
