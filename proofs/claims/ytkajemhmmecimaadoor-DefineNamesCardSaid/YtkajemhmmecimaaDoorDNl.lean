/- DefineNames, called with any two integers, returns true and leaves all that was there; the table strings.asciiSpace is as the program's text lays it. -/
import Derived.Test.YtkajemhmmecimaaDoorDN0
import Derived.Test.YtkajemhmmecimaaDoorDN1
import Derived.Test.YtkajemhmmecimaaDoorDN2
import Derived.Test.YtkajemhmmecimaaDoorDN3
import Derived.Test.YtkajemhmmecimaaDoorAw10
namespace Go.Exe
open Go Go.RowKit Go.Proofs
theorem runDN_all (r0 r1 : Nat) (h0 : r0 < 12) (h1 : r1 < 4) : runDN r0 r1 = true := by
  rcases r0 with _ | _ | _ | _ | _ | _ | _ | _ | _ | _ | _ | _ | r0
  · rcases r1 with _ | _ | _ | _ | r1
    · exact runDN_0_0
    · exact runDN_0_1
    · exact runDN_0_2
    · exact runDN_0_3
    · omega
  · rcases r1 with _ | _ | _ | _ | r1
    · exact runDN_1_0
    · exact runDN_1_1
    · exact runDN_1_2
    · exact runDN_1_3
    · omega
  · rcases r1 with _ | _ | _ | _ | r1
    · exact runDN_2_0
    · exact runDN_2_1
    · exact runDN_2_2
    · exact runDN_2_3
    · omega
  · rcases r1 with _ | _ | _ | _ | r1
    · exact runDN_3_0
    · exact runDN_3_1
    · exact runDN_3_2
    · exact runDN_3_3
    · omega
  · rcases r1 with _ | _ | _ | _ | r1
    · exact runDN_4_0
    · exact runDN_4_1
    · exact runDN_4_2
    · exact runDN_4_3
    · omega
  · rcases r1 with _ | _ | _ | _ | r1
    · exact runDN_5_0
    · exact runDN_5_1
    · exact runDN_5_2
    · exact runDN_5_3
    · omega
  · rcases r1 with _ | _ | _ | _ | r1
    · exact runDN_6_0
    · exact runDN_6_1
    · exact runDN_6_2
    · exact runDN_6_3
    · omega
  · rcases r1 with _ | _ | _ | _ | r1
    · exact runDN_7_0
    · exact runDN_7_1
    · exact runDN_7_2
    · exact runDN_7_3
    · omega
  · rcases r1 with _ | _ | _ | _ | r1
    · exact runDN_8_0
    · exact runDN_8_1
    · exact runDN_8_2
    · exact runDN_8_3
    · omega
  · rcases r1 with _ | _ | _ | _ | r1
    · exact runDN_9_0
    · exact runDN_9_1
    · exact runDN_9_2
    · exact runDN_9_3
    · omega
  · rcases r1 with _ | _ | _ | _ | r1
    · exact runDN_10_0
    · exact runDN_10_1
    · exact runDN_10_2
    · exact runDN_10_3
    · omega
  · rcases r1 with _ | _ | _ | _ | r1
    · exact runDN_11_0
    · exact runDN_11_1
    · exact runDN_11_2
    · exact runDN_11_3
    · omega
  · omega
section
variable [Env]
theorem orcDN_ok {k0 k1 : Int} {r0 r1 : Nat} (e0 : Env.val (.int .i64 0) = .int .i64 k0) (e1 : Env.val (.int .i64 1) = .int .i64 k1) (q0 : k0 % 12 = r0) (q1 : k1 % 4 = r1) : OrcOk Tryd.prog (orcDN r0 r1) := by
  intro f g e args h a h' hg
  unfold orcDN at e
  cases h1 : Nat.beq f 44 with
  | true => rw [h1] at e; cases e; rw [Nat.eq_of_beq_eq_true h1]; exact low_ok hg
  | false =>
    rw [h1] at e
    replace e : sel (Nat.beq f 11) (some (orcTab _)) (sel (Nat.beq f 21) (some (orcOne 0 .nil (.bool true))) none) = some g := e
    cases h2 : Nat.beq f 11 with
    | true =>
      rw [h2] at e; cases e; rw [Nat.eq_of_beq_eq_true h2]
      refine orcTab_ok fn11 (fun p hp h => ?_) hg
      rcases List.mem_cons.1 hp with rfl | hp
      · exact round_ok e0 (by decide) (by decide) q0 h
      obtain rfl := List.mem_singleton.1 hp
      exact round_ok e1 (by decide) (by decide) q1 h
    | false =>
      rw [h2] at e
      replace e : sel (Nat.beq f 21) (some (orcOne 0 .nil (.bool true))) none = some g := e
      cases h3 : Nat.beq f 21 with
      | true => rw [h3] at e; cases e; rw [Nat.eq_of_beq_eq_true h3]; exact awk10 hg
      | false => rw [h3] at e; cases e
end
/-- **the law holds** -/
theorem defineNames_law (k0 : Int) (k1 : Int) (W : World) (hW : Asc 0 W) : Calls Tryd.prog 8 #[.int .i64 k0, .int .i64 k1] W fun e W' => e = .returned (.bool true) ∧ Below W.heap.size W W' := by
  letI : Env := envL [.int .i64 k0, .int .i64 k1] (by simp [one1])
  have q0 : k0 % 12 = ((k0 % 12).toNat : Int) := by omega
  have q1 : k1 % 4 = ((k1 % 4).toNat : Int) := by omega
  have hrun := runDN_all (k0 % 12).toNat (k1 % 4).toNat (by omega) (by omega)
  exact (run_true (callAt_sound Tb1.tt_ok hm1 Tb1.ft_ok (orcDN_ok (k0 := k0) (k1 := k1) rfl rfl q0 q1) 60) (g := 0) (by decide) hrun hW (VL.cons rfl (VL.cons rfl (VL.nil _)))).2
end Go.Exe
