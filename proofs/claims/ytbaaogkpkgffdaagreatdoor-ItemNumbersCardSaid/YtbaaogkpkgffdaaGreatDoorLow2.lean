/- A part of an executor of the model over abstract values, and what it tells of the calls. -/
import Derived.Test.YtbaaogkpkgffdaaGreatDoorSh2
import Derived.WalkKit
import Derived.BigCall
namespace Go.Proofs
open Go.RowKit
def lowB (c : UInt8) : UInt8 := if 65 ≤ c.toNat ∧ c.toNat ≤ 90 then c + 32 else c
theorem lowCells (s : ByteArray) (k : Nat) (c : UInt8) (h : s.data.toList[k]? = some c) : Lib.byteCells ((s.data.toList.take (k + 1)).map lowB) = Lib.byteCells ((s.data.toList.take k).map lowB) ++ [.int .u8 (lowB c).toNat] := by
  rw [List.take_add_one, h]
  simp [Lib.byteCells]
set_option maxHeartbeats 4000000 in
set_option maxRecDepth 1000000 in
theorem Tryz.lower_walk (s : ByteArray) (w : World) (hs : s.size ≤ 35184372088832) :
    Calls Tryz.prog 82 #[.string s] w fun e w' => e = .returned (.string ⟨(s.data.toList.map lowB).toArray⟩) ∧ Below w.heap.size w w' := by
  go_enter Tryz.func82, Tryz.ntmps82
  go_wp2
  go_loopw [8] (fun i wr => ∃ k : Nat, i = .int .i64 k ∧ k ≤ s.size ∧ Lib.IsBuilder 201 5 w.heap.size w.heap.size (Lib.byteCells ((s.data.toList.take k).map lowB)) wr ∧ Below w.heap.size w wr) (fun i wr => s.size - (Lib.intOf i).toNat)
  case atStart =>
    exact ⟨0, rfl, by omega, Lib.fresh_isBuilder 201 5 w, (Below.refl _ w).alloc (Nat.le_refl _) _⟩
  case round =>
    obtain ⟨k, rfl, hk, hI, hb⟩ := hrel
    have hlen : s.data.toList.length = s.size := Array.length_toList
    by_cases hp : k < s.size
    · have hp' : (k : Int) < (s.size : Int) := by omega
      have hrk : (0 : Int) ≤ (k : Int) := by omega
      obtain ⟨c, hc, hcl⟩ : ∃ c, s[k]? = some c ∧ s.data.toList[k]? = some c := by
        refine ⟨s[k]'hp, by rw [getElem?_pos s k hp], ?_⟩
        rw [Array.getElem?_toList, getElem?_pos s.data k hp]; rfl
      have hix : (Instr.index 9 (.string s) (.int .i64 (k : Int))).run Tryz.prog wr = .ok (.int .u8 c.toNat) wr := by
        simp [Instr.index, asIntOf, run_underlying Tryz.underlying9, hc]
      have hcb := c.toNat_lt
      have hkl : ((s.data.toList.take k).map lowB).length = k := by simp; omega
      by_cases h1 : (65 : Int) ≤ (c.toNat : Int)
      · by_cases h2 : (c.toNat : Int) ≤ 90
        · have hw : IntKind.u8.wrap ((c.toNat : Int) + 32) = ((lowB c).toNat : Int) := by
            unfold lowB
            rw [if_pos (by omega), UInt8.toNat_add]
            have : (c.toNat + (32 : UInt8).toNat) % 2 ^ 8 = c.toNat + 32 := by
              rw [show (32 : UInt8).toNat = 32 from rfl]; omega
            rw [this]
            simp [IntKind.wrap, IntKind.bits, IntKind.signed]
            omega
          go_wp2_with (go_at_call 115; refine (Tryz.Builder_WriteByte w.heap.size w.heap.size _ _ _ hI (by rw [Lib.byteCells_length]; omega) (by have := hb.size; omega)).mono ?_)
          rintro e W1 ⟨rfl, h3, b1⟩
          go_wp2
          go_roundw
          case rel =>
            refine ⟨k + 1, by simp, by omega, ?_, hb.trans b1⟩
            rw [lowCells s k c hcl]
            exact Or.inr h3
          case measure =>
            simp [Lib.intOf]; omega
        · have hw : lowB c = c := by unfold lowB; rw [if_neg (by omega)]
          go_wp2_with (go_at_call 115; refine (Tryz.Builder_WriteByte w.heap.size w.heap.size _ _ _ hI (by rw [Lib.byteCells_length]; omega) (by have := hb.size; omega)).mono ?_)
          intro e W1 he h3 b1
          subst he
          rw [← List.map_take] at h3
          go_wp2
          go_roundw
          case rel =>
            refine ⟨k + 1, by simp, by omega, ?_, hb.trans b1⟩
            rw [lowCells s k c hcl, hw]
            exact Or.inr h3
          case measure =>
            simp [Lib.intOf]; omega
      · have hw : lowB c = c := by unfold lowB; rw [if_neg (by omega)]
        go_wp2_with (go_at_call 115; refine (Tryz.Builder_WriteByte w.heap.size w.heap.size _ _ _ hI (by rw [Lib.byteCells_length]; omega) (by have := hb.size; omega)).mono ?_)
        intro e W1 he h3 b1
        subst he
        rw [← List.map_take] at h3
        go_wp2
        go_roundw
        case rel =>
          refine ⟨k + 1, by simp, by omega, ?_, hb.trans b1⟩
          rw [lowCells s k c hcl, hw]
          exact Or.inr h3
        case measure =>
          simp [Lib.intOf]; omega
    · have hp' : ¬ (k : Int) < (s.size : Int) := by omega
      have hke : k = s.size := by omega
      have hall : s.data.toList.take k = s.data.toList := by rw [hke, ← hlen, List.take_length]
      rw [hall] at hI
      go_wp2_with (go_at_call 116; refine (Tryz.Builder_String w.heap.size w.heap.size _ _ hI (by have := hb.size; omega)).mono ?_)
      intro e W1 he b1
      subst he
      go_wp2
      go_ret
      exact ⟨rfl, hb.trans b1⟩
#print axioms Tryz.lower_walk
end Go.Proofs
