/- PropWides, called with any two integers and a truth value, returns true and leaves all that was there; the table strings.asciiSpace is as the program's text lays it. -/
import Derived.Test.YtkajemhmmecimaaDoorPW0
import Derived.Test.YtkajemhmmecimaaDoorPW1
import Derived.Test.YtkajemhmmecimaaDoorPW2
import Derived.Test.YtkajemhmmecimaaDoorPW3
import Derived.Test.YtkajemhmmecimaaDoorAw12
namespace Go.Exe
open Go Go.RowKit Go.Proofs
theorem runW_all (r i : Nat) (b : Bool) (hr : r < 8) (hi : i < 3) : runW r i b = true := by
  rcases r with _ | _ | _ | _ | _ | _ | _ | _ | r
  · rcases i with _ | _ | _ | i
    · cases b; exact runW_0_0_false; exact runW_0_0_true
    · cases b; exact runW_0_1_false; exact runW_0_1_true
    · cases b; exact runW_0_2_false; exact runW_0_2_true
    · omega
  · rcases i with _ | _ | _ | i
    · cases b; exact runW_1_0_false; exact runW_1_0_true
    · cases b; exact runW_1_1_false; exact runW_1_1_true
    · cases b; exact runW_1_2_false; exact runW_1_2_true
    · omega
  · rcases i with _ | _ | _ | i
    · cases b; exact runW_2_0_false; exact runW_2_0_true
    · cases b; exact runW_2_1_false; exact runW_2_1_true
    · cases b; exact runW_2_2_false; exact runW_2_2_true
    · omega
  · rcases i with _ | _ | _ | i
    · cases b; exact runW_3_0_false; exact runW_3_0_true
    · cases b; exact runW_3_1_false; exact runW_3_1_true
    · cases b; exact runW_3_2_false; exact runW_3_2_true
    · omega
  · rcases i with _ | _ | _ | i
    · cases b; exact runW_4_0_false; exact runW_4_0_true
    · cases b; exact runW_4_1_false; exact runW_4_1_true
    · cases b; exact runW_4_2_false; exact runW_4_2_true
    · omega
  · rcases i with _ | _ | _ | i
    · cases b; exact runW_5_0_false; exact runW_5_0_true
    · cases b; exact runW_5_1_false; exact runW_5_1_true
    · cases b; exact runW_5_2_false; exact runW_5_2_true
    · omega
  · rcases i with _ | _ | _ | i
    · cases b; exact runW_6_0_false; exact runW_6_0_true
    · cases b; exact runW_6_1_false; exact runW_6_1_true
    · cases b; exact runW_6_2_false; exact runW_6_2_true
    · omega
  · rcases i with _ | _ | _ | i
    · cases b; exact runW_7_0_false; exact runW_7_0_true
    · cases b; exact runW_7_1_false; exact runW_7_1_true
    · cases b; exact runW_7_2_false; exact runW_7_2_true
    · omega
  · omega
section
variable [Env]
theorem orcW_ok {k w : Int} {r i : Nat} (hk : Env.val (.int .i64 0) = .int .i64 k) (hw : Env.val (.int .i64 1) = .int .i64 w) (hr : k % 8 = r) (hi : w % 3 = i) : OrcOk Tryd.prog (orcW r i) := by
  intro f g e args h a h' hg
  unfold orcW at e
  cases h1 : Nat.beq f 44 with
  | true => rw [h1] at e; cases e; rw [Nat.eq_of_beq_eq_true h1]; exact low_ok hg
  | false =>
    rw [h1] at e
    replace e : sel (Nat.beq f 11) (some (orcTab _)) (sel (Nat.beq f 13) (some (orcOne 0 .nil (.bool true))) none) = some g := e
    cases h2 : Nat.beq f 11 with
    | true =>
      rw [h2] at e; cases e; rw [Nat.eq_of_beq_eq_true h2]
      refine orcTab_ok fn11 (fun p hp h => ?_) hg
      rcases List.mem_cons.1 hp with rfl | hp
      · exact round_ok hk (by decide) (by decide) hr h
      · obtain rfl := List.mem_singleton.1 hp
        exact round_ok hw (by decide) (by decide) hi h
    | false =>
      rw [h2] at e
      replace e : sel (Nat.beq f 13) (some (orcOne 0 .nil (.bool true))) none = some g := e
      cases h3 : Nat.beq f 13 with
      | true => rw [h3] at e; cases e; rw [Nat.eq_of_beq_eq_true h3]; exact awk12 hg
      | false => rw [h3] at e; cases e
end
/-- **PropWides answers true** -/
theorem propWides_law (k w : Int) (more : Bool) (W : World) (hW : Asc 0 W) : Calls Tryd.prog 3 #[.int .i64 k, .int .i64 w, .bool more] W fun e W' => e = .returned (.bool true) ∧ Below W.heap.size W W' := by
  letI : Env := envL [.int .i64 k, .int .i64 w] (by simp [one1])
  have hr : k % 8 = ((k % 8).toNat : Int) := by omega
  have hi : w % 3 = ((w % 3).toNat : Int) := by omega
  have hrun := runW_all (k % 8).toNat (w % 3).toNat more (by omega) (by omega)
  exact (run_true (callAt_sound Tb1.tt_ok hm1 Tb1.ft_ok (orcW_ok (k := k) (w := w) rfl rfl hr hi) 60) (g := 0) (by decide) hrun hW (VL.cons rfl (VL.cons rfl (VL.cons rfl (VL.nil _))))).2
end Go.Exe
