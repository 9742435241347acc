/- A key argument, opened and shut. -/
import Derived.Test.YtbaaogkpkgffdaaGreatDoorCO2
import Derived.Deep.Strs
import Derived.WalkKit
import Derived.ProofKit
import Derived.OpenShut
import Derived.ShutString
import Derived.ChangeOld
import Derived.WideShapes
namespace Go.Exe
open Go Go.ChangeShapes Go.WideShapes Go.ChangeAt Go.RowKit Go.Proofs Go.Deep
theorem cells3 : Tryz.prog.cellsOf 3 = 1 := by kernel_rfl
theorem cells23 : Tryz.prog.cellsOf 23 = 3 := by kernel_rfl
theorem cells25 : Tryz.prog.cellsOf 25 = 5 := by kernel_rfl
set_option maxRecDepth 100000
theorem list5 {α : Type} {l : List α} (h : l.length = 5) : ∃ a b c d e, l = [a, b, c, d, e] := by
  match l, h with
  | [a, b, c, d, e], _ => exact ⟨a, b, c, d, e, rfl⟩
theorem list3 {α : Type} {l : List α} (h : l.length = 3) : ∃ a b c, l = [a, b, c] := by
  match l, h with
  | [a, b, c], _ => exact ⟨a, b, c, rfl⟩
section
variable {H : Type} {enc : TypeId × Value → H} {base : Nat} {spare : Nat → Bool} {held : Bool}
/-- a key of numbers, opened; and it reads so in every world -/
theorem open_key {w : World} {r : Reach} {b0 : Nat} {v : Value} {d : DataW H} {ps : List MemPlace} (hv : Value.okWide Tryz.prog w r b0 25 v) (h : DataW.Trod enc Tryz.prog w base spare held 25 v d ps) :
    ∃ c : KV, v = c.v ∧ ps = [] ∧ ∀ w' spare', DataW.Trod enc Tryz.prog w' base spare' held 25 c.v d [] := by
  obtain ⟨cs, rfl, hsz⟩ := okWide_struct Tryz.underlying25 hv
  rw [cells25] at hsz
  obtain ⟨fuel, hf⟩ := h
  obtain ⟨c0, c1, c2, c3, c4, hl⟩ := list5 (l := cs.toList) (by rw [Array.length_toList]; exact hsz)
  have hf : DataW.trod enc Tryz.prog w base spare held fuel 25 cs.toList = some (d, ps) := hf
  rw [hl] at hf
  obtain ⟨y0, y1, y2, n, hx, _, h0, h1, h2⟩ := trod_struct3 Tryz.underlying25 hf
  simp only [cells3, cells23] at h0 h1 h2
  obtain ⟨n0, g0, rfl, w0⟩ := DataW.trod_int Tryz.underlying3 h0
  obtain ⟨n4, g4, rfl, w4⟩ := DataW.trod_int Tryz.underlying3 h2
  obtain ⟨xs, m, _, rfl, _, hlen, ha⟩ := DataW.trod_array Tryz.underlying23 h1
  obtain ⟨x1, x2, x3, rfl⟩ := list3 hlen
  have a1 := ha 0 (by omega)
  have a2 := ha 1 (by omega)
  have a3 := ha 2 (by omega)
  simp only [cells3] at a1 a2 a3
  obtain ⟨n1, g1, rfl, w1⟩ := DataW.trod_int Tryz.underlying3 (x := x1) a1
  obtain ⟨n2, g2, rfl, w2⟩ := DataW.trod_int Tryz.underlying3 (x := x2) a2
  obtain ⟨n3, g3, rfl, w3⟩ := DataW.trod_int Tryz.underlying3 (x := x3) a3
  simp at g0 g1 g2 g3 g4
  subst g0 g1 g2 g3 g4
  simp only [Prod.mk.injEq] at hx
  obtain ⟨rfl, rfl⟩ := hx
  refine ⟨⟨n0, n1, n2, n3, n4⟩, ?_, by simp, fun w' spare' => ⟨3, ?_⟩⟩
  · congr 1; apply Array.ext'; rw [hl]
  · have t3 : ∀ (k : Nat) (z : Int), (Lit.int .i64 z).wf = true → DataW.trod enc Tryz.prog w' base spare' held (k + 1) 3 [.int .i64 z] = some (.lit (.int .i64 z), []) := fun k z hz => by
      simp [DataW.trod, Tryz.underlying3, hz]
    have t23 : DataW.trod enc Tryz.prog w' base spare' held 2 23 [.int .i64 n1, .int .i64 n2, .int .i64 n3] = some (.agg [.lit (.int .i64 n1), .lit (.int .i64 n2), .lit (.int .i64 n3)], []) := by
      simp [DataW.trod, Tryz.underlying23, Tryz.underlying3, cells23, cells3, List.range_succ, w1, w2, w3]
    exact trod_struct3_mk (y0 := (.lit (.int .i64 n0), [])) (y1 := (.agg [.lit (.int .i64 n1), .lit (.int .i64 n2), .lit (.int .i64 n3)], [])) (y2 := (.lit (.int .i64 n4), [])) Tryz.underlying25 (by rw [cells25]; rfl)
      (by rw [cells3]; exact t3 1 _ w0) (by rw [cells23]; exact t23) (by rw [cells3]; exact t3 1 _ w4)
end
end Go.Exe
