/- A part of an executor of the model over abstract values, and what it tells of the calls. -/
import Derived.Test.YtbaaogkpkgffdaaGreatDoorProg
import Derived.WalkKit
namespace Go.Proofs
open Go.RowKit
theorem round_eq {k n : Int} (h0 : 0 < n) (h1 : n ≤ 1000000) : (wrap64 (k.tmod n + n)).tmod n = k % n := by
  have hm : 0 ≤ k % n ∧ k % n < n := ⟨Int.emod_nonneg k (by omega), Int.emod_lt_of_pos k h0⟩
  have hn : ((n.natAbs : Nat) : Int) = n := by omega
  have h2 : k.tmod n = k % n ∨ k.tmod n = k % n - n := by
    rw [Int.tmod_eq_emod]
    split
    · left; omega
    · right; omega
  have h4 : -n ≤ k.tmod n ∧ k.tmod n < n := by omega
  have h3 : wrap64 (k.tmod n + n) = k.tmod n + n := by unfold wrap64; omega
  rw [h3, Int.tmod_eq_emod_of_nonneg (by omega), Int.add_emod_right]
  rcases h2 with h2 | h2
  · rw [h2, Int.emod_emod]
  · rw [h2, Int.sub_emod_right, Int.emod_emod]
theorem Tryz.round (k n : Int) (h0 : 0 < n) (h1 : n ≤ 1000000) (w : World) : Calls Tryz.prog 19 #[.int .i64 k, .int .i64 n] w fun e w' => e = .returned (.int .i64 (k % n)) ∧ w' = w := by
  go_enter Tryz.func19, Tryz.ntmps19
  go_wp2
  go_ret
  exact ⟨by rw [round_eq h0 h1]; rfl, rfl⟩
end Go.Proofs
