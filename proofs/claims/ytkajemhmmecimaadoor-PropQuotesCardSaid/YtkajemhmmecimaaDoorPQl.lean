/- PropQuotes, called with any two integers, returns true and leaves all that was there; the table strings.asciiSpace is as the program's text lays it. -/
import Derived.Test.YtkajemhmmecimaaDoorPQ0
import Derived.Test.YtkajemhmmecimaaDoorPQ1
import Derived.Test.YtkajemhmmecimaaDoorPQ2
import Derived.Test.YtkajemhmmecimaaDoorPQ3
import Derived.Test.YtkajemhmmecimaaDoorPQ4
import Derived.Test.YtkajemhmmecimaaDoorPQ5
import Derived.Test.YtkajemhmmecimaaDoorPQ6
import Derived.Test.YtkajemhmmecimaaDoorPQ7
import Derived.Test.YtkajemhmmecimaaDoorPQ8
import Derived.Test.YtkajemhmmecimaaDoorPQ9
import Derived.Test.YtkajemhmmecimaaDoorAw12
namespace Go.Exe
open Go Go.RowKit Go.Proofs
theorem runQ_0 (r : Nat) (h : r < 4) : runQ 0 r = true := by
  rcases r with _ | _ | _ | _ | r
  · exact runQ_0_0
  · exact runQ_0_1
  · exact runQ_0_2
  · exact runQ_0_3
  · omega
theorem runQ_1 (r : Nat) (h : r < 4) : runQ 1 r = true := by
  rcases r with _ | _ | _ | _ | r
  · exact runQ_1_0
  · exact runQ_1_1
  · exact runQ_1_2
  · exact runQ_1_3
  · omega
theorem runQ_2 (r : Nat) (h : r < 4) : runQ 2 r = true := by
  rcases r with _ | _ | _ | _ | r
  · exact runQ_2_0
  · exact runQ_2_1
  · exact runQ_2_2
  · exact runQ_2_3
  · omega
theorem runQ_3 (r : Nat) (h : r < 4) : runQ 3 r = true := by
  rcases r with _ | _ | _ | _ | r
  · exact runQ_3_0
  · exact runQ_3_1
  · exact runQ_3_2
  · exact runQ_3_3
  · omega
theorem runQ_4 (r : Nat) (h : r < 4) : runQ 4 r = true := by
  rcases r with _ | _ | _ | _ | r
  · exact runQ_4_0
  · exact runQ_4_1
  · exact runQ_4_2
  · exact runQ_4_3
  · omega
theorem runQ_5 (r : Nat) (h : r < 4) : runQ 5 r = true := by
  rcases r with _ | _ | _ | _ | r
  · exact runQ_5_0
  · exact runQ_5_1
  · exact runQ_5_2
  · exact runQ_5_3
  · omega
theorem runQ_6 (r : Nat) (h : r < 4) : runQ 6 r = true := by
  rcases r with _ | _ | _ | _ | r
  · exact runQ_6_0
  · exact runQ_6_1
  · exact runQ_6_2
  · exact runQ_6_3
  · omega
theorem runQ_7 (r : Nat) (h : r < 4) : runQ 7 r = true := by
  rcases r with _ | _ | _ | _ | r
  · exact runQ_7_0
  · exact runQ_7_1
  · exact runQ_7_2
  · exact runQ_7_3
  · omega
theorem runQ_8 (r : Nat) (h : r < 4) : runQ 8 r = true := by
  rcases r with _ | _ | _ | _ | r
  · exact runQ_8_0
  · exact runQ_8_1
  · exact runQ_8_2
  · exact runQ_8_3
  · omega
theorem runQ_9 (r : Nat) (h : r < 4) : runQ 9 r = true := by
  rcases r with _ | _ | _ | _ | r
  · exact runQ_9_0
  · exact runQ_9_1
  · exact runQ_9_2
  · exact runQ_9_3
  · omega
theorem runQ_10 (r : Nat) (h : r < 4) : runQ 10 r = true := by
  rcases r with _ | _ | _ | _ | r
  · exact runQ_10_0
  · exact runQ_10_1
  · exact runQ_10_2
  · exact runQ_10_3
  · omega
theorem runQ_11 (r : Nat) (h : r < 4) : runQ 11 r = true := by
  rcases r with _ | _ | _ | _ | r
  · exact runQ_11_0
  · exact runQ_11_1
  · exact runQ_11_2
  · exact runQ_11_3
  · omega
theorem runQ_12 (r : Nat) (h : r < 4) : runQ 12 r = true := by
  rcases r with _ | _ | _ | _ | r
  · exact runQ_12_0
  · exact runQ_12_1
  · exact runQ_12_2
  · exact runQ_12_3
  · omega
theorem runQ_13 (r : Nat) (h : r < 4) : runQ 13 r = true := by
  rcases r with _ | _ | _ | _ | r
  · exact runQ_13_0
  · exact runQ_13_1
  · exact runQ_13_2
  · exact runQ_13_3
  · omega
theorem runQ_14 (r : Nat) (h : r < 4) : runQ 14 r = true := by
  rcases r with _ | _ | _ | _ | r
  · exact runQ_14_0
  · exact runQ_14_1
  · exact runQ_14_2
  · exact runQ_14_3
  · omega
theorem runQ_15 (r : Nat) (h : r < 4) : runQ 15 r = true := by
  rcases r with _ | _ | _ | _ | r
  · exact runQ_15_0
  · exact runQ_15_1
  · exact runQ_15_2
  · exact runQ_15_3
  · omega
theorem runQ_16 (r : Nat) (h : r < 4) : runQ 16 r = true := by
  rcases r with _ | _ | _ | _ | r
  · exact runQ_16_0
  · exact runQ_16_1
  · exact runQ_16_2
  · exact runQ_16_3
  · omega
theorem runQ_17 (r : Nat) (h : r < 4) : runQ 17 r = true := by
  rcases r with _ | _ | _ | _ | r
  · exact runQ_17_0
  · exact runQ_17_1
  · exact runQ_17_2
  · exact runQ_17_3
  · omega
theorem runQ_18 (r : Nat) (h : r < 4) : runQ 18 r = true := by
  rcases r with _ | _ | _ | _ | r
  · exact runQ_18_0
  · exact runQ_18_1
  · exact runQ_18_2
  · exact runQ_18_3
  · omega
theorem runQ_19 (r : Nat) (h : r < 4) : runQ 19 r = true := by
  rcases r with _ | _ | _ | _ | r
  · exact runQ_19_0
  · exact runQ_19_1
  · exact runQ_19_2
  · exact runQ_19_3
  · omega
theorem runQ_20 (r : Nat) (h : r < 4) : runQ 20 r = true := by
  rcases r with _ | _ | _ | _ | r
  · exact runQ_20_0
  · exact runQ_20_1
  · exact runQ_20_2
  · exact runQ_20_3
  · omega
theorem runQ_21 (r : Nat) (h : r < 4) : runQ 21 r = true := by
  rcases r with _ | _ | _ | _ | r
  · exact runQ_21_0
  · exact runQ_21_1
  · exact runQ_21_2
  · exact runQ_21_3
  · omega
theorem runQ_22 (r : Nat) (h : r < 4) : runQ 22 r = true := by
  rcases r with _ | _ | _ | _ | r
  · exact runQ_22_0
  · exact runQ_22_1
  · exact runQ_22_2
  · exact runQ_22_3
  · omega
theorem runQ_23 (r : Nat) (h : r < 4) : runQ 23 r = true := by
  rcases r with _ | _ | _ | _ | r
  · exact runQ_23_0
  · exact runQ_23_1
  · exact runQ_23_2
  · exact runQ_23_3
  · omega
theorem runQ_24 (r : Nat) (h : r < 4) : runQ 24 r = true := by
  rcases r with _ | _ | _ | _ | r
  · exact runQ_24_0
  · exact runQ_24_1
  · exact runQ_24_2
  · exact runQ_24_3
  · omega
theorem runQ_25 (r : Nat) (h : r < 4) : runQ 25 r = true := by
  rcases r with _ | _ | _ | _ | r
  · exact runQ_25_0
  · exact runQ_25_1
  · exact runQ_25_2
  · exact runQ_25_3
  · omega
theorem runQ_26 (r : Nat) (h : r < 4) : runQ 26 r = true := by
  rcases r with _ | _ | _ | _ | r
  · exact runQ_26_0
  · exact runQ_26_1
  · exact runQ_26_2
  · exact runQ_26_3
  · omega
theorem runQ_27 (r : Nat) (h : r < 4) : runQ 27 r = true := by
  rcases r with _ | _ | _ | _ | r
  · exact runQ_27_0
  · exact runQ_27_1
  · exact runQ_27_2
  · exact runQ_27_3
  · omega
theorem runQ_28 (r : Nat) (h : r < 4) : runQ 28 r = true := by
  rcases r with _ | _ | _ | _ | r
  · exact runQ_28_0
  · exact runQ_28_1
  · exact runQ_28_2
  · exact runQ_28_3
  · omega
theorem runQ_29 (r : Nat) (h : r < 4) : runQ 29 r = true := by
  rcases r with _ | _ | _ | _ | r
  · exact runQ_29_0
  · exact runQ_29_1
  · exact runQ_29_2
  · exact runQ_29_3
  · omega
theorem runQ_30 (r : Nat) (h : r < 4) : runQ 30 r = true := by
  rcases r with _ | _ | _ | _ | r
  · exact runQ_30_0
  · exact runQ_30_1
  · exact runQ_30_2
  · exact runQ_30_3
  · omega
theorem runQ_31 (r : Nat) (h : r < 4) : runQ 31 r = true := by
  rcases r with _ | _ | _ | _ | r
  · exact runQ_31_0
  · exact runQ_31_1
  · exact runQ_31_2
  · exact runQ_31_3
  · omega
theorem runQ_32 (r : Nat) (h : r < 4) : runQ 32 r = true := by
  rcases r with _ | _ | _ | _ | r
  · exact runQ_32_0
  · exact runQ_32_1
  · exact runQ_32_2
  · exact runQ_32_3
  · omega
theorem runQ_33 (r : Nat) (h : r < 4) : runQ 33 r = true := by
  rcases r with _ | _ | _ | _ | r
  · exact runQ_33_0
  · exact runQ_33_1
  · exact runQ_33_2
  · exact runQ_33_3
  · omega
theorem runQ_34 (r : Nat) (h : r < 4) : runQ 34 r = true := by
  rcases r with _ | _ | _ | _ | r
  · exact runQ_34_0
  · exact runQ_34_1
  · exact runQ_34_2
  · exact runQ_34_3
  · omega
theorem runQ_35 (r : Nat) (h : r < 4) : runQ 35 r = true := by
  rcases r with _ | _ | _ | _ | r
  · exact runQ_35_0
  · exact runQ_35_1
  · exact runQ_35_2
  · exact runQ_35_3
  · omega
theorem runQ_36 (r : Nat) (h : r < 4) : runQ 36 r = true := by
  rcases r with _ | _ | _ | _ | r
  · exact runQ_36_0
  · exact runQ_36_1
  · exact runQ_36_2
  · exact runQ_36_3
  · omega
theorem runQ_37 (r : Nat) (h : r < 4) : runQ 37 r = true := by
  rcases r with _ | _ | _ | _ | r
  · exact runQ_37_0
  · exact runQ_37_1
  · exact runQ_37_2
  · exact runQ_37_3
  · omega
theorem runQ_38 (r : Nat) (h : r < 4) : runQ 38 r = true := by
  rcases r with _ | _ | _ | _ | r
  · exact runQ_38_0
  · exact runQ_38_1
  · exact runQ_38_2
  · exact runQ_38_3
  · omega
theorem runQ_39 (r : Nat) (h : r < 4) : runQ 39 r = true := by
  rcases r with _ | _ | _ | _ | r
  · exact runQ_39_0
  · exact runQ_39_1
  · exact runQ_39_2
  · exact runQ_39_3
  · omega
theorem runQ_40 (r : Nat) (h : r < 4) : runQ 40 r = true := by
  rcases r with _ | _ | _ | _ | r
  · exact runQ_40_0
  · exact runQ_40_1
  · exact runQ_40_2
  · exact runQ_40_3
  · omega
theorem runQ_all (n r : Nat) (hn : n < 41) (h : r < 4) : runQ n r = true := by
  rcases n with _ | _ | _ | _ | _ | _ | _ | _ | _ | _ | _ | _ | _ | _ | _ | _ | _ | _ | _ | _ | _ | _ | _ | _ | _ | _ | _ | _ | _ | _ | _ | _ | _ | _ | _ | _ | _ | _ | _ | _ | _ | n
  · exact runQ_0 r h
  · exact runQ_1 r h
  · exact runQ_2 r h
  · exact runQ_3 r h
  · exact runQ_4 r h
  · exact runQ_5 r h
  · exact runQ_6 r h
  · exact runQ_7 r h
  · exact runQ_8 r h
  · exact runQ_9 r h
  · exact runQ_10 r h
  · exact runQ_11 r h
  · exact runQ_12 r h
  · exact runQ_13 r h
  · exact runQ_14 r h
  · exact runQ_15 r h
  · exact runQ_16 r h
  · exact runQ_17 r h
  · exact runQ_18 r h
  · exact runQ_19 r h
  · exact runQ_20 r h
  · exact runQ_21 r h
  · exact runQ_22 r h
  · exact runQ_23 r h
  · exact runQ_24 r h
  · exact runQ_25 r h
  · exact runQ_26 r h
  · exact runQ_27 r h
  · exact runQ_28 r h
  · exact runQ_29 r h
  · exact runQ_30 r h
  · exact runQ_31 r h
  · exact runQ_32 r h
  · exact runQ_33 r h
  · exact runQ_34 r h
  · exact runQ_35 r h
  · exact runQ_36 r h
  · exact runQ_37 r h
  · exact runQ_38 r h
  · exact runQ_39 r h
  · exact runQ_40 r h
  · omega
section
variable [Env]
theorem orcQ_ok {k : Int} {r : Nat} (e0 : Env.val (.int .i64 0) = .int .i64 k) (q0 : k % 4 = r) : OrcOk Tryd.prog (orcQ r) := by
  intro f g e args h a h' hg
  unfold orcQ at e
  cases h1 : Nat.beq f 44 with
  | true => rw [h1] at e; cases e; rw [Nat.eq_of_beq_eq_true h1]; exact low_ok hg
  | false =>
    rw [h1] at e
    replace e : sel (Nat.beq f 11) (some (orcTab _)) (sel (Nat.beq f 13) (some (orcOne 0 .nil (.bool true))) none) = some g := e
    cases h2 : Nat.beq f 11 with
    | true =>
      rw [h2] at e; cases e; rw [Nat.eq_of_beq_eq_true h2]
      refine orcTab_ok fn11 (fun p hp h => ?_) hg
      obtain rfl := List.mem_singleton.1 hp
      exact round_ok e0 (by decide) (by decide) q0 h
    | false =>
      rw [h2] at e
      replace e : sel (Nat.beq f 13) (some (orcOne 0 .nil (.bool true))) none = some g := e
      cases h3 : Nat.beq f 13 with
      | true => rw [h3] at e; cases e; rw [Nat.eq_of_beq_eq_true h3]; exact awk12 hg
      | false => rw [h3] at e; cases e
end
/-- the law, where the number of quotes is out of range -/
theorem propQuotes_out (n k : Int) (hn : n < 0 ∨ 40 < n) (W : World) (hW : Asc 0 W) : Calls Tryd.prog 4 #[.int .i64 n, .int .i64 k] W fun e W' => e = .returned (.bool true) ∧ Below W.heap.size W W' := by
  letI : Env := envL [.int .i64 0, .int .i64 n, .int .i64 k] (by simp [one1])
  have fin : ∀ F, FactsOk Tryd.prog F → runQo F = true → Calls Tryd.prog 4 #[.int .i64 n, .int .i64 k] W fun e W' => e = .returned (.bool true) ∧ Below W.heap.size W W' := fun F hF hrun =>
    (run_true (callAt_sound (tt := ⟨Tb1.tt.t, F⟩) ⟨Tb1.tt_ok.ty, hF⟩ hm1 (FTok_F F Tb1.ft_ok) (orcQ_ok (k := 0) (r := 0) rfl rfl) 60) (g := 0) (by decide) hrun hW (VL.cons rfl (VL.cons rfl (VL.nil _)))).2
  by_cases h : n < 0
  · refine fin factsQt (facts_ok fun p hp => ?_) runQo_t
    obtain rfl := List.mem_singleton.1 hp
    exact sy_lt rfl (decide_eq_true h)
  · refine fin factsQf (facts_ok fun p hp => ?_) runQo_f
    rcases List.mem_cons.1 hp with rfl | hp
    · exact sy_lt rfl (decide_eq_false h)
    · obtain rfl := List.mem_singleton.1 hp
      exact sy_gt rfl (decide_eq_true (by show (40 : Int) < n; omega))
/-- **PropQuotes answers true** -/
theorem propQuotes_law (n k : Int) (W : World) (hW : Asc 0 W) : Calls Tryd.prog 4 #[.int .i64 n, .int .i64 k] W fun e W' => e = .returned (.bool true) ∧ Below W.heap.size W W' := by
  by_cases hn : n < 0 ∨ 40 < n
  · exact propQuotes_out n k hn W hW
  · letI : Env := envL [.int .i64 k] (by simp [one1])
    have q0 : k % 4 = ((k % 4).toNat : Int) := by omega
    have hrun := runQ_all n.toNat (k % 4).toNat (by omega) (by omega)
    obtain ⟨m, rfl⟩ : ∃ m : Nat, n = m := ⟨n.toNat, by omega⟩
    exact (run_true (callAt_sound Tb1.tt_ok hm1 Tb1.ft_ok (orcQ_ok (k := k) rfl q0) 60) (g := 0) (by decide) hrun hW (VL.cons rfl (VL.cons rfl (VL.nil _)))).2
end Go.Exe
