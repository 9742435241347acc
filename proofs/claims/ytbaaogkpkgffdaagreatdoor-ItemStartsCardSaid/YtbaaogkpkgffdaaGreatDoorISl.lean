/- A part of an executor of the model over abstract values, and what it tells of the calls. -/
import Derived.Test.YtbaaogkpkgffdaaGreatDoorIS0
import Derived.Test.YtbaaogkpkgffdaaGreatDoorIS1
import Derived.Test.YtbaaogkpkgffdaaGreatDoorIS2
import Derived.Test.YtbaaogkpkgffdaaGreatDoorIS3
import Derived.Test.YtbaaogkpkgffdaaGreatDoorIS4
import Derived.Test.YtbaaogkpkgffdaaGreatDoorIS5
import Derived.Test.YtbaaogkpkgffdaaGreatDoorIS6
import Derived.Test.YtbaaogkpkgffdaaGreatDoorIS7
import Derived.Test.YtbaaogkpkgffdaaGreatDoorISe
import Derived.Test.YtbaaogkpkgffdaaGreatDoorDe
namespace Go.Exe
open Go Go.RowKit Go.Proofs Go.Proofs.Num
set_option maxRecDepth 100000
theorem fn20 : FnOk Tryz.prog 20 := FnOk_of Tb2.ft_ok (by kernel_rfl)
theorem fn42 : FnOk Tryz.prog 42 := FnOk_of Tb2.ft_ok (by kernel_rfl)
theorem wf_bounds {k : Int} (h : (Lit.int .i64 k).wf = true) : -9223372036854775808 ≤ k ∧ k ≤ 9223372036854775807 := by
  simp only [Lit.wf, Bool.and_eq_true, decide_eq_true_eq] at h
  have a : IntKind.i64.min = -9223372036854775808 := by decide
  have b : IntKind.i64.max = 9223372036854775807 := by decide
  omega
theorem dec_list (k : Int) : (⟨(decL k).toArray⟩ : ByteArray).data.toList = [] ++ (sgL k ++ (decGo 21 k.natAbs [] ++ [])) := by
  show decL k = _
  simp [decL]
theorem dec_num (k : Int) (h0 : -9223372036854775808 ≤ k) (h1 : k ≤ 9223372036854775807) : numV (⟨(decL k).toArray⟩ : ByteArray).data.toList = max (min k 2147483647) (-2147483648) ∧ numOk (⟨(decL k).toArray⟩ : ByteArray).data.toList = true := by
  obtain ⟨a, b, c, d⟩ := dec_digits k h0 h1
  have hsg : sgL k = [] ∨ sgL k = [43] ∨ sgL k = [45] := by unfold sgL; split; exact .inr (.inr rfl); exact .inl rfl
  obtain ⟨p1, p2⟩ := num_parts (bl := []) (sg := sgL k) (ds := decGo 21 k.natAbs []) (tl := []) (fun c hc => by cases hc) hsg a (fun c hc => by cases hc) (fun _ => b)
  rw [dec_list]
  exact ⟨p1.trans (intF_dec k h0 h1), p2.trans (decide_eq_true b)⟩
theorem dec_size (k : Int) (h0 : -9223372036854775808 ≤ k) (h1 : k ≤ 9223372036854775807) : (⟨(decL k).toArray⟩ : ByteArray).size ≤ 900 := by
  obtain ⟨a, b, c, d⟩ := dec_digits k h0 h1
  have : (⟨(decL k).toArray⟩ : ByteArray).size = (decL k).length := rfl
  rw [this]; unfold decL sgL; rw [List.length_append]; split <;> simp <;> omega
section
variable [Env]
theorem dec_ok {k : Int} (h0 : -9223372036854775808 ≤ k) (h1 : k ≤ 9223372036854775807) (e0 : Env.val (.int .i64 0) = .int .i64 k) (e5 : Env.val (.str 5 0) = .string ⟨(decL k).toArray⟩) (h : Hp) : CallOk Tryz.prog 20 (.cons (sy 0) .nil) h (sys 5) h := by
  refine callOk_of (fun φ argv w hv => ?_) h
  obtain ⟨u, us, h2, h3, h4⟩ := VL_cons_inv hv
  obtain rfl := VL_nil_inv h4
  have h3 : u = .int .i64 k := (show u = Env.val (.int .i64 0) from h3).trans e0
  subst h3
  obtain rfl : argv = #[.int .i64 k] := by apply Array.ext'; rw [h2]
  refine (Tryz.decimal_walk0 k _ rfl w h0 h1).mono ?_
  rintro e w' ⟨rfl, hb⟩
  exact ⟨_, rfl, fun φ => e5.symm, hb⟩
theorem num_ok {z : Int} {b : Bool} {i : Int} {S : ByteArray} {j : Nat} (e5 : Env.val (.str j 0) = .string S) (ez : Env.val (.int .i64 i) = .int .i64 z) (hs : S.size ≤ 900) (hv : numV S.data.toList = z) (ho : numOk S.data.toList = b) (h : Hp) : CallOk Tryz.prog 42 (.cons (sys j) .nil) h (.tup (.cons (sy i) (.cons (.bool b) .nil))) h := by
  refine callOk_of (fun φ argv w hv' => ?_) h
  obtain ⟨u, us, h2, h3, h4⟩ := VL_cons_inv hv'
  obtain rfl := VL_nil_inv h4
  have h3 : u = .string S := (show u = Env.val (.str j 0) from h3).trans e5
  subst h3
  obtain rfl : argv = #[.string S] := by apply Array.ext'; rw [h2]
  refine (Tryz.number S w hs).mono ?_
  rintro e w' ⟨rfl, hb⟩
  exact ⟨_, rfl, fun φ => ⟨_, rfl, VL.cons (by rw [hv]; exact ez.symm) (VL.cons (by rw [ho]; rfl) (VL.nil _))⟩, hb⟩
theorem num0_ok (h : Hp) : CallOk Tryz.prog 42 (.cons (.str 0 0) .nil) h (.tup (.cons (.int .i64 (.ofNat 0)) (.cons (.bool false) .nil))) h := by
  refine callOk_of (fun φ argv w hv' => ?_) h
  obtain ⟨u, us, h2, h3, h4⟩ := VL_cons_inv hv'
  obtain rfl := VL_nil_inv h4
  obtain ⟨rfl, _⟩ := h3
  obtain rfl : argv = #[.string (strB 0 0)] := by apply Array.ext'; rw [h2]
  refine (Tryz.number (strB 0 0) w (by simp)).mono ?_
  rintro e w' ⟨rfl, hb⟩
  exact ⟨_, rfl, fun φ => ⟨_, rfl, VL.cons rfl (VL.cons rfl (VL.nil _))⟩, hb⟩
theorem orcIS_ok {k : Int} (h0 : -9223372036854775808 ≤ k) (h1 : k ≤ 9223372036854775807) (hnum : ∀ h, CallOk Tryz.prog 42 (.cons (sys 5) .nil) h (.tup (.cons (sy 0) (.cons (.bool true) .nil))) h) (e0 : Env.val (.int .i64 0) = .int .i64 k) (e5 : Env.val (.str 5 0) = .string ⟨(decL k).toArray⟩) : OrcOk Tryz.prog orcIS := by
  intro f g e args h a h' hg
  unfold orcIS at e
  cases b1 : Nat.beq f 20 with
  | true =>
    rw [b1] at e; cases e; rw [Nat.eq_of_beq_eq_true b1]
    refine orcTab_ok fn20 (fun p hp h => ?_) hg
    obtain rfl := List.mem_singleton.1 hp
    exact dec_ok h0 h1 e0 e5 h
  | false =>
    rw [b1] at e
    replace e : sel (Nat.beq f 42) (some (orcTab tabNum)) (sel (Nat.beq f 41) (some (orcOne 0 .nil (.bool true))) (orcI f)) = some g := e
    cases b2 : Nat.beq f 42 with
    | true =>
      rw [b2] at e; cases e; rw [Nat.eq_of_beq_eq_true b2]
      refine orcTab_ok fn42 (fun p hp h => ?_) hg
      rcases List.mem_cons.1 hp with rfl | hp
      · exact hnum h
      · obtain rfl := List.mem_singleton.1 hp
        exact num0_ok h
    | false =>
      rw [b2] at e
      replace e : sel (Nat.beq f 41) (some (orcOne 0 .nil (.bool true))) (orcI f) = some g := e
      cases b3 : Nat.beq f 41 with
      | true => rw [b3] at e; cases e; rw [Nat.eq_of_beq_eq_true b3]; exact awk16 hg
      | false => rw [b3] at e; exact orcI_ok f g e args h a h' hg
end
theorem runIS_0 (a b c : Bool) : runIS 0 a b c = true := by
  cases a <;> cases b <;> cases c
  · exact runIS_0_false_false_false
  · exact runIS_0_false_false_true
  · exact runIS_0_false_true_false
  · exact runIS_0_false_true_true
  · exact runIS_0_true_false_false
  · exact runIS_0_true_false_true
  · exact runIS_0_true_true_false
  · exact runIS_0_true_true_true
theorem runIS_1 (a b c : Bool) : runIS 1 a b c = true := by
  cases a <;> cases b <;> cases c
  · exact runIS_1_false_false_false
  · exact runIS_1_false_false_true
  · exact runIS_1_false_true_false
  · exact runIS_1_false_true_true
  · exact runIS_1_true_false_false
  · exact runIS_1_true_false_true
  · exact runIS_1_true_true_false
  · exact runIS_1_true_true_true
theorem runIS_2 (a b c : Bool) : runIS 2 a b c = true := by
  cases a <;> cases b <;> cases c
  · exact runIS_2_false_false_false
  · exact runIS_2_false_false_true
  · exact runIS_2_false_true_false
  · exact runIS_2_false_true_true
  · exact runIS_2_true_false_false
  · exact runIS_2_true_false_true
  · exact runIS_2_true_true_false
  · exact runIS_2_true_true_true
theorem runIS_3 (a b c : Bool) : runIS 3 a b c = true := by
  cases a <;> cases b <;> cases c
  · exact runIS_3_false_false_false
  · exact runIS_3_false_false_true
  · exact runIS_3_false_true_false
  · exact runIS_3_false_true_true
  · exact runIS_3_true_false_false
  · exact runIS_3_true_false_true
  · exact runIS_3_true_true_false
  · exact runIS_3_true_true_true
theorem runIS_4 (a b c : Bool) : runIS 4 a b c = true := by
  cases a <;> cases b <;> cases c
  · exact runIS_4_false_false_false
  · exact runIS_4_false_false_true
  · exact runIS_4_false_true_false
  · exact runIS_4_false_true_true
  · exact runIS_4_true_false_false
  · exact runIS_4_true_false_true
  · exact runIS_4_true_true_false
  · exact runIS_4_true_true_true
theorem runIS_5 (a b c : Bool) : runIS 5 a b c = true := by
  cases a <;> cases b <;> cases c
  · exact runIS_5_false_false_false
  · exact runIS_5_false_false_true
  · exact runIS_5_false_true_false
  · exact runIS_5_false_true_true
  · exact runIS_5_true_false_false
  · exact runIS_5_true_false_true
  · exact runIS_5_true_true_false
  · exact runIS_5_true_true_true
theorem runIS_6 (a b c : Bool) : runIS 6 a b c = true := by
  cases a <;> cases b <;> cases c
  · exact runIS_6_false_false_false
  · exact runIS_6_false_false_true
  · exact runIS_6_false_true_false
  · exact runIS_6_false_true_true
  · exact runIS_6_true_false_false
  · exact runIS_6_true_false_true
  · exact runIS_6_true_true_false
  · exact runIS_6_true_true_true
theorem runIS_7 (a b c : Bool) : runIS 7 a b c = true := by
  cases a <;> cases b <;> cases c
  · exact runIS_7_false_false_false
  · exact runIS_7_false_false_true
  · exact runIS_7_false_true_false
  · exact runIS_7_false_true_true
  · exact runIS_7_true_false_false
  · exact runIS_7_true_false_true
  · exact runIS_7_true_true_false
  · exact runIS_7_true_true_true
theorem runIS_8 (a b c : Bool) : runIS 8 a b c = true := by
  cases a <;> cases b <;> cases c
  · exact runIS_8_false_false_false
  · exact runIS_8_false_false_true
  · exact runIS_8_false_true_false
  · exact runIS_8_false_true_true
  · exact runIS_8_true_false_false
  · exact runIS_8_true_false_true
  · exact runIS_8_true_true_false
  · exact runIS_8_true_true_true
theorem runIS_9 (a b c : Bool) : runIS 9 a b c = true := by
  cases a <;> cases b <;> cases c
  · exact runIS_9_false_false_false
  · exact runIS_9_false_false_true
  · exact runIS_9_false_true_false
  · exact runIS_9_false_true_true
  · exact runIS_9_true_false_false
  · exact runIS_9_true_false_true
  · exact runIS_9_true_true_false
  · exact runIS_9_true_true_true
theorem runIS_10 (a b c : Bool) : runIS 10 a b c = true := by
  cases a <;> cases b <;> cases c
  · exact runIS_10_false_false_false
  · exact runIS_10_false_false_true
  · exact runIS_10_false_true_false
  · exact runIS_10_false_true_true
  · exact runIS_10_true_false_false
  · exact runIS_10_true_false_true
  · exact runIS_10_true_true_false
  · exact runIS_10_true_true_true
theorem runIS_11 (a b c : Bool) : runIS 11 a b c = true := by
  cases a <;> cases b <;> cases c
  · exact runIS_11_false_false_false
  · exact runIS_11_false_false_true
  · exact runIS_11_false_true_false
  · exact runIS_11_false_true_true
  · exact runIS_11_true_false_false
  · exact runIS_11_true_false_true
  · exact runIS_11_true_true_false
  · exact runIS_11_true_true_true
theorem runIS_12 (a b c : Bool) : runIS 12 a b c = true := by
  cases a <;> cases b <;> cases c
  · exact runIS_12_false_false_false
  · exact runIS_12_false_false_true
  · exact runIS_12_false_true_false
  · exact runIS_12_false_true_true
  · exact runIS_12_true_false_false
  · exact runIS_12_true_false_true
  · exact runIS_12_true_true_false
  · exact runIS_12_true_true_true
theorem runIS_13 (a b c : Bool) : runIS 13 a b c = true := by
  cases a <;> cases b <;> cases c
  · exact runIS_13_false_false_false
  · exact runIS_13_false_false_true
  · exact runIS_13_false_true_false
  · exact runIS_13_false_true_true
  · exact runIS_13_true_false_false
  · exact runIS_13_true_false_true
  · exact runIS_13_true_true_false
  · exact runIS_13_true_true_true
theorem runIS_14 (a b c : Bool) : runIS 14 a b c = true := by
  cases a <;> cases b <;> cases c
  · exact runIS_14_false_false_false
  · exact runIS_14_false_false_true
  · exact runIS_14_false_true_false
  · exact runIS_14_false_true_true
  · exact runIS_14_true_false_false
  · exact runIS_14_true_false_true
  · exact runIS_14_true_true_false
  · exact runIS_14_true_true_true
theorem runIS_15 (a b c : Bool) : runIS 15 a b c = true := by
  cases a <;> cases b <;> cases c
  · exact runIS_15_false_false_false
  · exact runIS_15_false_false_true
  · exact runIS_15_false_true_false
  · exact runIS_15_false_true_true
  · exact runIS_15_true_false_false
  · exact runIS_15_true_false_true
  · exact runIS_15_true_true_false
  · exact runIS_15_true_true_true
theorem runIS_all (n : Nat) (hn : n < 16) (a b c : Bool) : runIS n a b c = true := by
  rcases n with _ | _ | _ | _ | _ | _ | _ | _ | _ | _ | _ | _ | _ | _ | _ | _ | n
  · exact runIS_0 a b c
  · exact runIS_1 a b c
  · exact runIS_2 a b c
  · exact runIS_3 a b c
  · exact runIS_4 a b c
  · exact runIS_5 a b c
  · exact runIS_6 a b c
  · exact runIS_7 a b c
  · exact runIS_8 a b c
  · exact runIS_9 a b c
  · exact runIS_10 a b c
  · exact runIS_11 a b c
  · exact runIS_12 a b c
  · exact runIS_13 a b c
  · exact runIS_14 a b c
  · exact runIS_15 a b c
  · omega
/-- the law, where a number is out of range -/
theorem itemStarts_out (n k : Int) (said rev own : Bool) (ho : n < 0 ∨ 15 < n ∨ k < -1073741824 ∨ 1073741824 < k) (hk : (Lit.int .i64 k).wf = true) (W : World) (hW : Asc 0 W) :
    Calls Tryz.prog 12 #[.int .i64 n, .int .i64 k, .bool said, .bool rev, .bool own] W fun e W' => e = .returned (.bool true) ∧ Below W.heap.size W W' := by
  obtain ⟨h0, h1⟩ := wf_bounds hk
  letI : Env := envL [.int .i64 k, .int .i64 (k + 1), .int .i64 (k - 1), .int .i64 0, .int .i64 0, .string ⟨(decL k).toArray⟩, .int .i64 n] (by simp [one1])
  obtain ⟨a, ha⟩ : ∃ a : Bool, decide (n < 0) = a := ⟨_, rfl⟩
  obtain ⟨b, hb⟩ : ∃ b : Bool, decide (15 < n) = b := ⟨_, rfl⟩
  obtain ⟨c, hc⟩ : ∃ c : Bool, decide (k < -1073741824) = c := ⟨_, rfl⟩
  obtain ⟨d, hd⟩ : ∃ d : Bool, decide (1073741824 < k) = d := ⟨_, rfl⟩
  have hrun : runISp a b c d said rev own = true := by
    refine runISp_all a b c d ?_ ?_ ?_ said rev own
    · rw [← ha, ← hb, ← hc, ← hd]; simp only [Bool.or_eq_true, decide_eq_true_eq]; omega
    · rw [← ha, ← hb, Bool.and_eq_false_iff]; simp only [decide_eq_false_iff_not]; omega
    · rw [← hc, ← hd, Bool.and_eq_false_iff]; simp only [decide_eq_false_iff_not]; omega
  have hF : FactsOk Tryz.prog (factsO a b c d) := facts_ok fun p hp => by
    rcases List.mem_cons.1 hp with rfl | hp
    · exact sy_lt (n := n) rfl ha
    rcases List.mem_cons.1 hp with rfl | hp
    · exact sy_gt (n := n) rfl hb
    rcases List.mem_cons.1 hp with rfl | hp
    · exact sy_lt (n := k) rfl hc
    · obtain rfl := List.mem_singleton.1 hp
      exact sy_gt (n := k) rfl hd
  exact (run_true (callAt_sound (tt := ⟨Tb2.tt.t, factsO a b c d⟩) ⟨Tb2.tt_ok.ty, hF⟩ hm2 (FTok_F _ Tb2.ft_ok) orcO_ok 60) (g := 0) (by decide) hrun hW (VL.cons rfl (VL.cons rfl (VL.cons rfl (VL.cons rfl (VL.cons rfl (VL.nil _))))))).2
section
variable [Env]
theorem wr_id {x : Int} (h0 : -9223372036854775808 ≤ x) (h1 : x ≤ 9223372036854775807) : iwrap .i64 x = x := by
  rw [iwrap_eq]; simp [IntKind.wrap, IntKind.bits, IntKind.signed]; omega
end
/-- **ItemStarts answers true** -/
theorem itemStarts_law (n k : Int) (said rev own : Bool) (W : World) (hW : Asc 0 W) (_ : (Lit.int .i64 n).wf = true) (hk : (Lit.int .i64 k).wf = true) :
    Calls Tryz.prog 12 #[.int .i64 n, .int .i64 k, .bool said, .bool rev, .bool own] W fun e W' => e = .returned (.bool true) ∧ Below W.heap.size W W' := by
  by_cases ho : n < 0 ∨ 15 < n ∨ k < -1073741824 ∨ 1073741824 < k
  · exact itemStarts_out n k said rev own ho hk W hW
  · obtain ⟨h0, h1⟩ := wf_bounds hk
    letI : Env := envL [.int .i64 k, .int .i64 (k + 1), .int .i64 (k - 1), .int .i64 0, .int .i64 0, .string ⟨(decL k).toArray⟩, .int .i64 n] (by simp [one1])
    obtain ⟨m, rfl⟩ : ∃ m : Nat, n = m := ⟨n.toNat, by omega⟩
    have hrun := runIS_all m (by omega) said rev own
    have hF : FactsOk Tryz.prog factsIS := facts_ok fun p hp => by
      rcases List.mem_cons.1 hp with rfl | hp
      · exact sy_lt (n := k) rfl (decide_eq_false (by omega))
      rcases List.mem_cons.1 hp with rfl | hp
      · exact sy_gt (n := k) rfl (decide_eq_false (by omega))
      rcases List.mem_cons.1 hp with rfl | hp
      · exact add_fact (n := k) rfl rfl (wr_id (by omega) (by omega))
      rcases List.mem_cons.1 hp with rfl | hp
      · exact sub_fact (n := k) rfl rfl (wr_id (by omega) (by omega))
      rcases List.mem_cons.1 hp with rfl | hp
      · exact min_fact (n := k) (z := k) rfl rfl (by omega)
      · obtain rfl := List.mem_singleton.1 hp
        exact max_fact (n := k) (z := k) rfl rfl (by omega)
    obtain ⟨d1, d2⟩ := dec_num k h0 h1
    have ho := orcIS_ok (k := k) h0 h1 (num_ok (S := ⟨(decL k).toArray⟩) (z := k) rfl rfl (dec_size k h0 h1) (by rw [d1]; omega) d2) rfl rfl
    exact (run_true (callAt_sound (tt := ⟨Tb2.tt.t, factsIS⟩) ⟨Tb2.tt_ok.ty, hF⟩ hm2 (FTok_F _ Tb2.ft_ok) ho 60) (g := 0) (by decide) hrun hW (VL.cons rfl (VL.cons rfl (VL.cons rfl (VL.cons rfl (VL.cons rfl (VL.nil _))))))).2
end Go.Exe
