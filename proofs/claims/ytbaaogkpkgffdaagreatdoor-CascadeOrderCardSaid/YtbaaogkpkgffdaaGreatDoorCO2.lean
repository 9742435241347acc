/- CascadeOrder as a law over three keys. -/
import Derived.Test.YtbaaogkpkgffdaaGreatDoorCO1
import Derived.Test.YtbaaogkpkgffdaaGreatDoorAw13
namespace Go.Exe
open Go Go.RowKit Go.Proofs
theorem ieq_dec [Env] (n m : Int) : ieq n m = decide (n = m) := by
  have := eqInt_scal (tt := Tb2.tt) (t := 3) (n := n) (m := m) rfl
  exact Option.some.inj this
theorem andO_some (b c : Bool) : andO (some b) (some c) = some (b && c) := by cases b <;> rfl
theorem eqKeyAV (a b : KV) : eqTop Tb2.tt hE 25 (.agg (.cons (.int .i64 a.o) (.cons (.int .i64 a.p) (.cons (.int .i64 a.q) (.cons (.int .i64 a.r) (.cons (.int .i64 a.t) .nil)))))) (.agg (.cons (.int .i64 b.o) (.cons (.int .i64 b.p) (.cons (.int .i64 b.q) (.cons (.int .i64 b.r) (.cons (.int .i64 b.t) .nil))))))
    = andO (some (ieq a.o b.o)) (andO (some (ieq a.p b.p)) (andO (some (ieq a.q b.q)) (andO (some (ieq a.r b.r)) (andO (some (ieq a.t b.t)) (some true))))) := by kernel_rfl
theorem eqWAV (a b : KV) : eqTop Tb2.tt hE 23 (.agg (.cons (.int .i64 a.p) (.cons (.int .i64 a.q) (.cons (.int .i64 a.r) .nil)))) (.agg (.cons (.int .i64 b.p) (.cons (.int .i64 b.q) (.cons (.int .i64 b.r) .nil))))
    = andO (some (ieq a.p b.p)) (andO (some (ieq a.q b.q)) (andO (some (ieq a.r b.r)) (some true))) := by kernel_rfl
def eqK5 (a b : KV) : Bool := decide (a.o = b.o ∧ a.p = b.p ∧ a.q = b.q ∧ a.r = b.r ∧ a.t = b.t)
def eqW3 (a b : KV) : Bool := decide (a.p = b.p ∧ a.q = b.q ∧ a.r = b.r)
theorem isL_or3 (x y : Int) (s : R3) : isL (or3 (cmpR x y) s) = true ↔ x < y ∨ x = y ∧ isL s = true := by
  unfold cmpR
  by_cases h : x < y
  · rw [if_pos h]; exact ⟨fun _ => .inl h, fun _ => rfl⟩
  · rw [if_neg h]
    by_cases h' : y < x
    · rw [if_pos h']
      refine ⟨fun h => absurd (show false = true from h) (by decide), fun h => ?_⟩
      omega
    · rw [if_neg h']
      exact ⟨fun h => .inr ⟨by omega, h⟩, fun h => h.elim (fun h => by omega) fun h => h.2⟩
theorem or3_assoc (a b c : R3) : or3 (or3 a b) c = or3 a (or3 b c) := by cases a <;> rfl
theorem less_iff (a b : KV) : lessK a b = true ↔ a.o < b.o ∨ a.o = b.o ∧ (a.p < b.p ∨ a.p = b.p ∧ (a.q < b.q ∨ a.q = b.q ∧ (a.r < b.r ∨ a.r = b.r ∧ a.t < b.t))) := by
  unfold lessK cmpW
  rw [or3_assoc, or3_assoc, isL_or3, isL_or3, isL_or3, isL_or3, ← isL_cmp, decide_eq_true_iff]
/-! ### the run -/
noncomputable def kA : AV := key5 0 1 2 3 4
noncomputable def kB : AV := key5 5 6 7 8 9
noncomputable def kC : AV := key5 10 11 12 13 14
noncomputable def kD : AV := key5 0 1 2 3 9
noncomputable def pr (a b : AV) : AV := .cons a (.cons b .nil)
noncomputable def tab15 (lab lba lbc lac : Bool) : List (AV × AV) := .cons (pr kA kB, .bool lab) (.cons (pr kB kA, .bool lba) (.cons (pr kB kC, .bool lbc) (.cons (pr kA kC, .bool lac) (.cons (pr kD kD, .bool false) .nil))))
noncomputable def tab16 (lab : Bool) : List (AV × AV) := .cons (pr kA kB, .bool lab) .nil
noncomputable def orcCO (lab lba lbc lac : Bool) (f : Nat) : Option (AV → Hp → CR) := sel (Nat.beq f 15) (some (orcTab (tab15 lab lba lbc lac))) (sel (Nat.beq f 16) (some (orcTab (tab16 lab))) (sel (Nat.beq f 18) (some (orcOne 0 .nil (.bool true))) none))
noncomputable def factsCO (eq oeq one olt wne alt : Bool) : FK → AV → Option AV := facts (.cons (.bin .eql 25, pr kA kB, .bool eq) (.cons (.bin .eql 3, pr (sy 0) (sy 5), .bool oeq) (.cons (.bin .neq 3, pr (sy 0) (sy 5), .bool one) (.cons (.bin .lss 3, pr (sy 0) (sy 5), .bool olt)
  (.cons (.bin .neq 23, pr (v3 1 2 3) (v3 6 7 8), .bool wne) (.cons (.bin .lss 3, pr (sy 4) (sy 9), .bool alt) .nil))))))
noncomputable def runCO (lab lba lbc lac oeq olt weq alt : Bool) : Bool := isTrue (callAt ⟨Tb2.tt.t, factsCO (nB (sel lab true lba)) oeq (nB oeq) olt (nB weq) alt⟩ Tb2.ft (orcCO lab lba lbc lac) 30 3 (.cons kA (.cons kB (.cons kC .nil))) (hG 0))
def condCO (lab lba lbc lac oeq olt weq alt : Bool) : Bool := !(lab && lba) && !(lab && lbc && !lac) && (oeq || (lab == olt)) && (!oeq || !weq || (lab == alt))
theorem runCO_all (lab lba lbc lac oeq olt weq alt : Bool) (h : condCO lab lba lbc lac oeq olt weq alt = true) : runCO lab lba lbc lac oeq olt weq alt = true := by
  cases lab <;> cases lba <;> cases lbc <;> cases lac <;> cases oeq <;> cases olt <;> cases weq <;> cases alt <;> first | (exact absurd h (by decide)) | kernel_rfl
/-! ### the law -/
theorem fn16' : FnOk Tryz.prog 16 := fn16
section
variable [Env]
/-- a key of symbols -/
theorem key_inv {φ : PM} {i j k l m : Int} {c : KV} {u : Value} (h : VR φ (key5 i j k l m) u) (e1 : Env.val (.int .i64 i) = .int .i64 c.o) (e2 : Env.val (.int .i64 j) = .int .i64 c.p) (e3 : Env.val (.int .i64 k) = .int .i64 c.q) (e4 : Env.val (.int .i64 l) = .int .i64 c.r) (e5 : Env.val (.int .i64 m) = .int .i64 c.t) : u = c.v := by
  obtain ⟨us, rfl, h⟩ := h
  obtain ⟨x1, l1, f1, g1, h⟩ := VL_cons_inv h
  obtain ⟨x2, l2, rfl, g2, h⟩ := VL_cons_inv h
  obtain ⟨x3, l3, rfl, g3, h⟩ := VL_cons_inv h
  obtain ⟨x4, l4, rfl, g4, h⟩ := VL_cons_inv h
  obtain ⟨x5, l5, rfl, g5, h⟩ := VL_cons_inv h
  obtain rfl := VL_nil_inv h
  obtain rfl : x1 = .int .i64 c.o := (show x1 = Env.val (.int .i64 i) from g1).trans e1
  obtain rfl : x2 = .int .i64 c.p := (show x2 = Env.val (.int .i64 j) from g2).trans e2
  obtain rfl : x3 = .int .i64 c.q := (show x3 = Env.val (.int .i64 k) from g3).trans e3
  obtain rfl : x4 = .int .i64 c.r := (show x4 = Env.val (.int .i64 l) from g4).trans e4
  obtain rfl : x5 = .int .i64 c.t := (show x5 = Env.val (.int .i64 m) from g5).trans e5
  congr 1; apply Array.ext'; rw [f1]
theorem key_vr {φ : PM} {i j k l m : Int} {c : KV} (e1 : Env.val (.int .i64 i) = .int .i64 c.o) (e2 : Env.val (.int .i64 j) = .int .i64 c.p) (e3 : Env.val (.int .i64 k) = .int .i64 c.q) (e4 : Env.val (.int .i64 l) = .int .i64 c.r) (e5 : Env.val (.int .i64 m) = .int .i64 c.t) : VR φ (key5 i j k l m) c.v :=
  ⟨_, rfl, VL.cons e1.symm (VL.cons e2.symm (VL.cons e3.symm (VL.cons e4.symm (VL.cons e5.symm (VL.nil _)))))⟩
theorem pair_ok {f : Nat} {x y : AV} {a b : KV} {r : Bool} (hc : ∀ w, Calls Tryz.prog f #[a.v, b.v] w fun e w' => e = .returned (.bool (lessK a b)) ∧ Below w.heap.size w w') (hx : ∀ φ u, VR φ x u → u = a.v) (hy : ∀ φ u, VR φ y u → u = b.v) (hr : lessK a b = r) (h : Hp) : CallOk Tryz.prog f (pr x y) h (.bool r) h := by
  refine callOk_of (fun φ argv w hv => ?_) h
  obtain ⟨u, us, h2, h3, h4⟩ := VL_cons_inv hv
  obtain ⟨u', us', h5, h6, h7⟩ := VL_cons_inv h4
  obtain rfl := VL_nil_inv h7
  obtain rfl := hx _ _ h3
  obtain rfl := hy _ _ h6
  obtain rfl : argv = #[a.v, b.v] := by apply Array.ext'; rw [h2, h5]
  refine (hc w).mono ?_
  rintro e w' ⟨rfl, hb⟩
  exact ⟨_, rfl, fun φ => by rw [hr]; rfl, hb⟩
end
/-- the keys' numbers -/
theorem cascadeOrder_keys (a b c : KV) (W : World) (hW : Asc 0 W) :
    Calls Tryz.prog 3 #[a.v, b.v, c.v] W fun e W' => e = .returned (.bool true) ∧ Below W.heap.size W W' := by
  letI : Env := envL (ab a b ++ [.int .i64 c.o, .int .i64 c.p, .int .i64 c.q, .int .i64 c.r, .int .i64 c.t]) (by simp [one1])
  have iA : ∀ φ u, VR φ kA u → u = a.v := fun φ u h => key_inv h rfl rfl rfl rfl rfl
  have iB : ∀ φ u, VR φ kB u → u = b.v := fun φ u h => key_inv h rfl rfl rfl rfl rfl
  have iC : ∀ φ u, VR φ kC u → u = c.v := fun φ u h => key_inv h rfl rfl rfl rfl rfl
  have iD : ∀ φ u, VR φ kD u → u = (KV.mk a.o a.p a.q a.r b.t).v := fun φ u h => key_inv (c := ⟨a.o, a.p, a.q, a.r, b.t⟩) h rfl rfl rfl rfl rfl
  obtain ⟨lab, hab⟩ : ∃ x, lessK a b = x := ⟨_, rfl⟩
  obtain ⟨lba, hba⟩ : ∃ x, lessK b a = x := ⟨_, rfl⟩
  obtain ⟨lbc, hbc⟩ : ∃ x, lessK b c = x := ⟨_, rfl⟩
  obtain ⟨lac, hac⟩ : ∃ x, lessK a c = x := ⟨_, rfl⟩
  have hdd : lessK ⟨a.o, a.p, a.q, a.r, b.t⟩ ⟨a.o, a.p, a.q, a.r, b.t⟩ = false := by
    rw [Bool.eq_false_iff]; intro h; rw [less_iff] at h; simp only [] at h; omega
  have iab := less_iff a b
  have iba := less_iff b a
  have ibc := less_iff b c
  have iac := less_iff a c
  rw [hab] at iab; rw [hba] at iba; rw [hbc] at ibc; rw [hac] at iac
  have ho : OrcOk Tryz.prog (orcCO lab lba lbc lac) := by
    intro f g e args h x h' hg
    unfold orcCO at e
    cases b1 : Nat.beq f 15 with
    | true =>
      rw [b1] at e; cases e; rw [Nat.eq_of_beq_eq_true b1]
      refine orcTab_ok fn15 (fun p hp h => ?_) hg
      rcases List.mem_cons.1 hp with rfl | hp
      · exact pair_ok (less_calls a b) iA iB hab h
      rcases List.mem_cons.1 hp with rfl | hp
      · exact pair_ok (less_calls b a) iB iA hba h
      rcases List.mem_cons.1 hp with rfl | hp
      · exact pair_ok (less_calls b c) iB iC hbc h
      rcases List.mem_cons.1 hp with rfl | hp
      · exact pair_ok (less_calls a c) iA iC hac h
      · obtain rfl := List.mem_singleton.1 hp
        exact pair_ok (less_calls _ _) iD iD hdd h
    | false =>
      rw [b1] at e
      replace e : sel (Nat.beq f 16) (some (orcTab (tab16 lab))) (sel (Nat.beq f 18) (some (orcOne 0 .nil (.bool true))) none) = some g := e
      cases b2 : Nat.beq f 16 with
      | true =>
        rw [b2] at e; cases e; rw [Nat.eq_of_beq_eq_true b2]
        refine orcTab_ok fn16 (fun p hp h => ?_) hg
        obtain rfl := List.mem_singleton.1 hp
        exact pair_ok (rless_calls a b) iA iB hab h
      | false =>
        rw [b2] at e
        replace e : sel (Nat.beq f 18) (some (orcOne 0 .nil (.bool true))) none = some g := e
        cases b3 : Nat.beq f 18 with
        | true => rw [b3] at e; cases e; rw [Nat.eq_of_beq_eq_true b3]; exact awk13 hg
        | false => rw [b3] at e; cases e
  obtain ⟨oeq, hoeq⟩ : ∃ x, decide (a.o = b.o) = x := ⟨_, rfl⟩
  obtain ⟨olt, holt⟩ : ∃ x, decide (a.o < b.o) = x := ⟨_, rfl⟩
  obtain ⟨weq, hweq⟩ : ∃ x, eqW3 a b = x := ⟨_, rfl⟩
  obtain ⟨alt, halt⟩ : ∃ x, decide (a.t < b.t) = x := ⟨_, rfl⟩
  have jo : oeq = true ↔ a.o = b.o := by rw [← hoeq, decide_eq_true_iff]
  have jl : olt = true ↔ a.o < b.o := by rw [← holt, decide_eq_true_iff]
  have jw : weq = true ↔ a.p = b.p ∧ a.q = b.q ∧ a.r = b.r := by rw [← hweq, eqW3, decide_eq_true_iff]
  have ja : alt = true ↔ a.t < b.t := by rw [← halt, decide_eq_true_iff]
  have hcond : condCO lab lba lbc lac oeq olt weq alt = true := by
    have c1 : ¬ (lab = true ∧ lba = true) := by rw [iab, iba]; omega
    have c2 : lab = true → lbc = true → lac = true := by rw [iab, ibc, iac]; omega
    have c3 : ¬ oeq = true → (lab = true ↔ olt = true) := by rw [jo, iab, jl]; omega
    have c4 : oeq = true → weq = true → (lab = true ↔ alt = true) := by rw [jo, jw, iab, ja]; omega
    clear iab iba ibc iac jo jl jw ja ho hab hba hbc hac hoeq holt hweq halt
    revert c1 c2 c3 c4
    revert lab lba lbc lac oeq olt weq alt
    decide
  have hrun := runCO_all _ _ _ _ _ _ _ _ hcond
  have heq : eqK5 a b = nB (sel lab true lba) := by
    have c5 : eqK5 a b = true ↔ ¬ lab = true ∧ ¬ lba = true := by rw [eqK5, decide_eq_true_iff, iab, iba]; omega
    rw [Bool.eq_iff_iff, c5]
    cases lab <;> cases lba <;> decide
  have hF : FactsOk Tryz.prog (factsCO (nB (sel lab true lba)) oeq (nB oeq) olt (nB weq) alt) := facts_ok fun p hp => by
    rcases List.mem_cons.1 hp with rfl | hp
    · refine eq_fact Tb2.tt_ok (a := .agg (.cons (.int .i64 a.o) (.cons (.int .i64 a.p) (.cons (.int .i64 a.q) (.cons (.int .i64 a.r) (.cons (.int .i64 a.t) .nil)))))) (b := .agg (.cons (.int .i64 b.o) (.cons (.int .i64 b.p) (.cons (.int .i64 b.q) (.cons (.int .i64 b.r) (.cons (.int .i64 b.t) .nil)))))) (fun φ u h => ?_) (fun φ u h => ?_) ?_
      · rw [iA φ u h]; exact ⟨_, rfl, VL.cons rfl (VL.cons rfl (VL.cons rfl (VL.cons rfl (VL.cons rfl (VL.nil _)))))⟩
      · rw [iB φ u h]; exact ⟨_, rfl, VL.cons rfl (VL.cons rfl (VL.cons rfl (VL.cons rfl (VL.cons rfl (VL.nil _)))))⟩
      · rw [eqKeyAV, ← heq]
        simp only [ieq_dec, andO_some, eqK5, Bool.decide_and, Bool.and_true]
    rcases List.mem_cons.1 hp with rfl | hp
    · exact ss_eq Tb2.tt_ok (n := a.o) (m := b.o) rfl rfl hoeq
    rcases List.mem_cons.1 hp with rfl | hp
    · exact ss_ne Tb2.tt_ok (n := a.o) (m := b.o) rfl rfl (by rw [nB_eq, ← hoeq]; simp)
    rcases List.mem_cons.1 hp with rfl | hp
    · exact ss_lt (n := a.o) (m := b.o) rfl rfl holt
    rcases List.mem_cons.1 hp with rfl | hp
    · refine ne_fact Tb2.tt_ok (a := .agg (.cons (.int .i64 a.p) (.cons (.int .i64 a.q) (.cons (.int .i64 a.r) .nil)))) (b := .agg (.cons (.int .i64 b.p) (.cons (.int .i64 b.q) (.cons (.int .i64 b.r) .nil)))) (r := weq) (fun φ u h => ?_) (fun φ u h => ?_) ?_ (nB_eq _).symm
      · exact h
      · exact h
      · rw [eqWAV, ← hweq]
        simp only [ieq_dec, andO_some, eqW3, Bool.decide_and, Bool.and_true]
    · obtain rfl := List.mem_singleton.1 hp
      exact ss_lt (n := a.t) (m := b.t) rfl rfl halt
  exact (run_true (callAt_sound (tt := ⟨Tb2.tt.t, factsCO _ _ _ _ _ _⟩) ⟨Tb2.tt_ok.ty, hF⟩ hm2 (FTok_F _ Tb2.ft_ok) ho 30) (g := 0) (by decide) hrun hW (VL.cons (key_vr rfl rfl rfl rfl rfl) (VL.cons (key_vr rfl rfl rfl rfl rfl) (VL.cons (key_vr rfl rfl rfl rfl rfl) (VL.nil _))))).2
end Go.Exe
