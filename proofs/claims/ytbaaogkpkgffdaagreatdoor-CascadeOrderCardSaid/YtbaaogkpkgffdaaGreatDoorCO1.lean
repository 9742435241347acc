/- Contracts: Compare, selector.Order, cascade.Less and the reference Less over keys of any numbers. -/
import Derived.Test.YtbaaogkpkgffdaaGreatDoorCO0
namespace Go.Exe
open Go Go.RowKit Go.Proofs
/-- a key's numbers -/
structure KV where
  o : Int
  p : Int
  q : Int
  r : Int
  t : Int
abbrev KV.v (k : KV) : Value := .agg #[.int .i64 k.o, .int .i64 k.p, .int .i64 k.q, .int .i64 k.r, .int .i64 k.t]
noncomputable def cmpW (a b : KV) : R3 := or3 (cmpR a.p b.p) (or3 (cmpR a.q b.q) (cmpR a.r b.r))
noncomputable def lessK (a b : KV) : Bool := isL (or3 (cmpR a.o b.o) (or3 (cmpW a b) (cmpR a.t b.t)))
theorem isL_cmp (a b : Int) : decide (a < b) = isL (cmpR a b) := by
  unfold cmpR
  by_cases h : a < b
  · rw [if_pos h, decide_eq_true h]; rfl
  · rw [if_neg h, decide_eq_false h]; by_cases h' : b < a
    · rw [if_pos h']; rfl
    · rw [if_neg h']; rfl
theorem isG_cmp (a b : Int) : decide (b < a) = isG (cmpR a b) := by
  unfold cmpR
  by_cases h : a < b
  · rw [if_pos h, decide_eq_false (by omega)]; rfl
  · rw [if_neg h]; by_cases h' : b < a
    · rw [if_pos h', decide_eq_true h']; rfl
    · rw [if_neg h', decide_eq_false h']; rfl
theorem isN_cmp (a b : Int) : decide (a ≠ b) = isN (cmpR a b) := by
  unfold cmpR
  by_cases h : a < b
  · rw [if_pos h, decide_eq_true (by omega)]; rfl
  · rw [if_neg h]; by_cases h' : b < a
    · rw [if_pos h', decide_eq_true (by omega)]; rfl
    · rw [if_neg h', decide_eq_false (by omega)]; rfl
noncomputable abbrev irV (r : R3) : Value := R3.rec (.int .i64 (-1)) (.int .i64 0) (.int .i64 1) r
theorem ir_vr [Env] {φ : PM} {r : R3} {v : Value} : VR φ (ir r) v ↔ v = irV r := by cases r <;> exact Iff.rfl
/-- the numbers of two keys -/
abbrev ab (a b : KV) : List Value := [.int .i64 a.o, .int .i64 a.p, .int .i64 a.q, .int .i64 a.r, .int .i64 a.t, .int .i64 b.o, .int .i64 b.p, .int .i64 b.q, .int .i64 b.r, .int .i64 b.t]
theorem cmp_calls (n m : Int) (w : World) : Calls Tryz.prog 49 #[.int .i64 n, .int .i64 m] w fun e w' => e = .returned (irV (cmpR n m)) ∧ Below w.heap.size w w' := by
  letI : Env := envL [.int .i64 n, .int .i64 m] (by simp [one1])
  have hF : FactsOk Tryz.prog (factsC (cmpR n m)) := facts_ok fun p hp => by
    rcases List.mem_cons.1 hp with rfl | hp
    · exact ss_lt (n := n) (m := m) rfl rfl (isL_cmp n m)
    · obtain rfl := List.mem_singleton.1 hp
      exact ss_gt (n := n) (m := m) rfl rfl (isG_cmp n m)
  refine (run_any (callAt_sound (tt := ⟨Tb2.tt.t, factsC (cmpR n m)⟩) ⟨Tb2.tt_ok.ty, hF⟩ hm2 (FTok_F _ Tb2.ft_ok) (noOrc_ok _) 30) (runC _) (VL.cons rfl (VL.cons rfl (VL.nil _)))).mono ?_
  rintro e w' ⟨v, φ, rfl, hv, hb⟩
  exact ⟨by rw [ir_vr.1 hv], hb⟩
theorem fn49 : FnOk Tryz.prog 49 := FnOk_of Tb2.ft_ok (by kernel_rfl)
theorem fn50 : FnOk Tryz.prog 50 := FnOk_of Tb2.ft_ok (by kernel_rfl)
theorem fn15 : FnOk Tryz.prog 15 := FnOk_of Tb2.ft_ok (by kernel_rfl)
theorem fn16 : FnOk Tryz.prog 16 := FnOk_of Tb2.ft_ok (by kernel_rfl)
section
variable [Env]
theorem cmp_ok {i j n m : Int} (hi : Env.val (.int .i64 i) = .int .i64 n) (hj : Env.val (.int .i64 j) = .int .i64 m) (h : Hp) : CallOk Tryz.prog 49 (.cons (sy i) (.cons (sy j) .nil)) h (ir (cmpR n m)) h := by
  refine callOk_of (fun φ argv w hv => ?_) h
  obtain ⟨u, us, h2, h3, h4⟩ := VL_cons_inv hv
  obtain ⟨u', us', h5, h6, h7⟩ := VL_cons_inv h4
  obtain rfl := VL_nil_inv h7
  obtain rfl : u = .int .i64 n := (show u = Env.val (.int .i64 i) from h3).trans hi
  obtain rfl : u' = .int .i64 m := (show u' = Env.val (.int .i64 j) from h6).trans hj
  obtain rfl : argv = #[.int .i64 n, .int .i64 m] := by apply Array.ext'; rw [h2, h5]
  refine (cmp_calls n m w).mono ?_
  rintro e w' ⟨rfl, hb⟩
  exact ⟨_, rfl, fun φ => ir_vr.2 rfl, hb⟩
end
theorem order_calls (a b : KV) (w : World) : Calls Tryz.prog 50 #[.agg #[.int .i64 a.p, .int .i64 a.q, .int .i64 a.r], .agg #[.int .i64 b.p, .int .i64 b.q, .int .i64 b.r]] w fun e w' => e = .returned (irV (cmpW a b)) ∧ Below w.heap.size w w' := by
  letI : Env := envL (ab a b) (by simp [one1])
  have ho : OrcOk Tryz.prog (orcO3 (cmpR a.p b.p) (cmpR a.q b.q) (cmpR a.r b.r)) := by
    intro f g e args h x h' hg
    unfold orcO3 at e
    cases b1 : Nat.beq f 49 with
    | true =>
      rw [b1] at e; cases e; rw [Nat.eq_of_beq_eq_true b1]
      refine orcTab_ok fn49 (fun p hp h => ?_) hg
      rcases List.mem_cons.1 hp with rfl | hp
      · exact cmp_ok rfl rfl h
      rcases List.mem_cons.1 hp with rfl | hp
      · exact cmp_ok rfl rfl h
      · obtain rfl := List.mem_singleton.1 hp
        exact cmp_ok rfl rfl h
    | false => rw [b1] at e; cases e
  refine (run_any (callAt_sound Tb2.tt_ok hm2 Tb2.ft_ok ho 30) (runO3_all _ _ _) (VL.cons ⟨_, rfl, VL.cons rfl (VL.cons rfl (VL.cons rfl (VL.nil _)))⟩ (VL.cons ⟨_, rfl, VL.cons rfl (VL.cons rfl (VL.cons rfl (VL.nil _)))⟩ (VL.nil _)))).mono ?_
  rintro e w' ⟨v, φ, rfl, hv, hb⟩
  exact ⟨by rw [ir_vr.1 hv]; rfl, hb⟩
theorem less_calls (a b : KV) (w : World) : Calls Tryz.prog 15 #[a.v, b.v] w fun e w' => e = .returned (.bool (lessK a b)) ∧ Below w.heap.size w w' := by
  letI : Env := envL (ab a b) (by simp [one1])
  have ho : OrcOk Tryz.prog (orcL (cmpR a.o b.o) (cmpW a b) (cmpR a.t b.t)) := by
    intro f g e args h x h' hg
    unfold orcL at e
    cases b1 : Nat.beq f 49 with
    | true =>
      rw [b1] at e; cases e; rw [Nat.eq_of_beq_eq_true b1]
      refine orcTab_ok fn49 (fun p hp h => ?_) hg
      rcases List.mem_cons.1 hp with rfl | hp
      · exact cmp_ok rfl rfl h
      · obtain rfl := List.mem_singleton.1 hp
        exact cmp_ok rfl rfl h
    | false =>
      rw [b1] at e
      replace e : sel (Nat.beq f 50) (some (orcTab (.cons (.cons (v3 1 2 3) (.cons (v3 6 7 8) .nil), ir (cmpW a b)) .nil))) none = some g := e
      cases b2 : Nat.beq f 50 with
      | true =>
        rw [b2] at e; cases e; rw [Nat.eq_of_beq_eq_true b2]
        refine orcTab_ok fn50 (fun p hp h => ?_) hg
        obtain rfl := List.mem_singleton.1 hp
        refine callOk_of (fun φ argv w hv => ?_) h
        obtain ⟨u, us, h2, ⟨c1, rfl, h3⟩, h4⟩ := VL_cons_inv hv
        obtain ⟨u', us', h5, ⟨c2, rfl, h6⟩, h7⟩ := VL_cons_inv h4
        obtain rfl := VL_nil_inv h7
        obtain ⟨x1, l1, e1, g1, h3⟩ := VL_cons_inv h3
        obtain ⟨x2, l2, rfl, g2, h3⟩ := VL_cons_inv h3
        obtain ⟨x3, l3, rfl, g3, h3⟩ := VL_cons_inv h3
        obtain rfl := VL_nil_inv h3
        obtain ⟨y1, m1, e2, k1, h6⟩ := VL_cons_inv h6
        obtain ⟨y2, m2, rfl, k2, h6⟩ := VL_cons_inv h6
        obtain ⟨y3, m3, rfl, k3, h6⟩ := VL_cons_inv h6
        obtain rfl := VL_nil_inv h6
        obtain rfl : x1 = .int .i64 a.p := g1
        obtain rfl : x2 = .int .i64 a.q := g2
        obtain rfl : x3 = .int .i64 a.r := g3
        obtain rfl : y1 = .int .i64 b.p := k1
        obtain rfl : y2 = .int .i64 b.q := k2
        obtain rfl : y3 = .int .i64 b.r := k3
        obtain rfl : c1 = #[.int .i64 a.p, .int .i64 a.q, .int .i64 a.r] := by apply Array.ext'; rw [e1]
        obtain rfl : c2 = #[.int .i64 b.p, .int .i64 b.q, .int .i64 b.r] := by apply Array.ext'; rw [e2]
        obtain rfl : argv = #[.agg #[.int .i64 a.p, .int .i64 a.q, .int .i64 a.r], .agg #[.int .i64 b.p, .int .i64 b.q, .int .i64 b.r]] := by apply Array.ext'; rw [h2, h5]
        refine (order_calls a b w).mono ?_
        rintro e w' ⟨rfl, hb⟩
        exact ⟨_, rfl, fun φ => ir_vr.2 rfl, hb⟩
      | false => rw [b2] at e; cases e
  refine (run_any (callAt_sound Tb2.tt_ok hm2 Tb2.ft_ok ho 30) (runL_all _ _ _) (VL.cons ⟨_, rfl, VL.cons rfl (VL.cons rfl (VL.cons rfl (VL.cons rfl (VL.cons rfl (VL.nil _)))))⟩ (VL.cons ⟨_, rfl, VL.cons rfl (VL.cons rfl (VL.cons rfl (VL.cons rfl (VL.cons rfl (VL.nil _)))))⟩ (VL.nil _)))).mono ?_
  rintro e w' ⟨v, φ, rfl, hv, hb⟩
  obtain rfl : v = .bool _ := hv
  exact ⟨rfl, hb⟩
theorem rless_calls (a b : KV) (w : World) : Calls Tryz.prog 16 #[a.v, b.v] w fun e w' => e = .returned (.bool (lessK a b)) ∧ Below w.heap.size w w' := by
  letI : Env := envL (ab a b) (by simp [one1])
  have hF : FactsOk Tryz.prog (factsR (cmpR a.o b.o) (cmpR a.p b.p) (cmpR a.q b.q) (cmpR a.r b.r) (cmpR a.t b.t)) := facts_ok fun p hp => by
    rcases List.mem_cons.1 hp with rfl | hp
    · exact ss_ne Tb2.tt_ok (n := a.o) (m := b.o) rfl rfl (isN_cmp _ _)
    rcases List.mem_cons.1 hp with rfl | hp
    · exact ss_lt (n := a.o) (m := b.o) rfl rfl (isL_cmp _ _)
    rcases List.mem_cons.1 hp with rfl | hp
    · exact ss_ne Tb2.tt_ok (n := a.p) (m := b.p) rfl rfl (isN_cmp _ _)
    rcases List.mem_cons.1 hp with rfl | hp
    · exact ss_lt (n := a.p) (m := b.p) rfl rfl (isL_cmp _ _)
    rcases List.mem_cons.1 hp with rfl | hp
    · exact ss_ne Tb2.tt_ok (n := a.q) (m := b.q) rfl rfl (isN_cmp _ _)
    rcases List.mem_cons.1 hp with rfl | hp
    · exact ss_lt (n := a.q) (m := b.q) rfl rfl (isL_cmp _ _)
    rcases List.mem_cons.1 hp with rfl | hp
    · exact ss_ne Tb2.tt_ok (n := a.r) (m := b.r) rfl rfl (isN_cmp _ _)
    rcases List.mem_cons.1 hp with rfl | hp
    · exact ss_lt (n := a.r) (m := b.r) rfl rfl (isL_cmp _ _)
    · obtain rfl := List.mem_singleton.1 hp
      exact ss_lt (n := a.t) (m := b.t) rfl rfl (isL_cmp _ _)
  refine (run_any (callAt_sound (tt := ⟨Tb2.tt.t, factsR _ _ _ _ _⟩) ⟨Tb2.tt_ok.ty, hF⟩ hm2 (FTok_F _ Tb2.ft_ok) (noOrc_ok _) 30) (runR_all _ _ _ _ _) (VL.cons ⟨_, rfl, VL.cons rfl (VL.cons rfl (VL.cons rfl (VL.cons rfl (VL.cons rfl (VL.nil _)))))⟩ (VL.cons ⟨_, rfl, VL.cons rfl (VL.cons rfl (VL.cons rfl (VL.cons rfl (VL.cons rfl (VL.nil _)))))⟩ (VL.nil _)))).mono ?_
  rintro e w' ⟨v, φ, rfl, hv, hb⟩
  obtain rfl : v = .bool _ := hv
  exact ⟨rfl, hb⟩
end Go.Exe
