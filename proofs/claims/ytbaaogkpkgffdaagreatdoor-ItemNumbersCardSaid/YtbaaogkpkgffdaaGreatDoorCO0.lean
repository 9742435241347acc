/- A key of symbols, facts of numbers compared, and runs of Compare, Order and Less over how the numbers stand. -/
import Derived.Test.YtbaaogkpkgffdaaGreatDoorA2
import Derived.Test.YtbaaogkpkgffdaaGreatDoorFx
namespace Go.Exe
open Go Go.RowKit Go.Proofs
set_option linter.unusedSectionVars false
section
variable [Env]
/-- a heap that tells of nothing -/
noncomputable def hE : Hp := ⟨pt 1000, .E, [], 0⟩
theorem hE_wr (w : World) : WR (φG 0) hE w := by
  refine ⟨fun i hi => ⟨_, by simp [φG, toN_pt, hi]; rfl⟩, fun i o e => by simp [hE] at e, fun i j p q e => by simp [hE] at e, fun i hi => ?_⟩
  have h1000 : toN hE.n = 1000 := toN_pt 1000
  rw [h1000] at hi
  exact ⟨by simp [hE], by simp [φG]; omega⟩
theorem hE_ro : ∀ i, ¬ wrI hE i := by
  rintro i ⟨o, e, h⟩
  simp [hE] at e
/-- does a call end in this value? -/
noncomputable def isV (a : AV) (r : CR) : Bool := CR.rec (motive := fun _ => Bool) (fun _ => false) (fun v _ => eqAV v a) r
theorem isV_inv {a : AV} {r : CR} (h : isV a r = true) : ∃ h', r = .val a h' := by
  cases r with
  | fail n => cases h
  | val v h' => exact ⟨h', by rw [eqAV_iff (show eqAV v a = true from h)]⟩
theorem run_any {P : Program} {cf : CallF} (hcf : CFok P cf) {f : Nat} {args a : AV} (e : isV a (cf f args hE) = true) {w : World} {argv : Array Value} (hv : VL (φG 0) args argv.toList) :
    Calls P f argv w fun e w' => ∃ v φ', e = .returned v ∧ VR φ' a v ∧ Below w.heap.size w w' := by
  obtain ⟨h', e⟩ := isV_inv e
  refine ((hcf f args _ a h' e).2 _ w argv (hE_wr w) hv).mono ?_
  rintro e w' ⟨v, φ', rfl, hv, hs⟩
  exact ⟨v, φ', rfl, hv, hs.toBelow hE_ro⟩
/-- '==' and '!=' on symbols -/
theorem eq_fact {P : Program} {tt : TT} (ht : TTok P tt) {t : Nat} {x y a b : AV} {r : Bool} (hx : ∀ φ u, VR φ x u → VR (φG 0) a u) (hy : ∀ φ u, VR φ y u → VR (φG 0) b u) (e : eqTop tt hE t a b = some r) :
    FactOk P (.bin .eql t, .cons x (.cons y .nil), .bool r) := by
  refine ⟨(by intro h; cases h), fun o φ act ho hv => ?_⟩
  obtain ⟨p, q, u, ho⟩ := fk_bin ho
  rw [ho] at hv
  obtain ⟨v1, l1, e1, h1, hv⟩ := VL_cons_inv hv
  obtain ⟨v2, l2, rfl, h2, hv⟩ := VL_cons_inv hv
  obtain rfl := VL_nil_inv hv
  have e1 : [act.eval p, act.eval q] = [v1, v2] := e1
  injection e1 with e1 e2
  injection e2 with e2 _
  subst e1; subst e2
  refine ⟨.bool r, rfl, fun w => ?_⟩
  simp only [execOp, ho]
  exact run_value ((eqTop_sound ht (hE_wr w) (hx φ _ h1) (hy φ _ h2) e p q).1)
theorem ne_fact {P : Program} {tt : TT} (ht : TTok P tt) {t : Nat} {x y a b : AV} {r s : Bool} (hx : ∀ φ u, VR φ x u → VR (φG 0) a u) (hy : ∀ φ u, VR φ y u → VR (φG 0) b u) (e : eqTop tt hE t a b = some r) (hs : (!r) = s) :
    FactOk P (.bin .neq t, .cons x (.cons y .nil), .bool s) := by
  refine ⟨(by intro h; cases h), fun o φ act ho hv => ?_⟩
  obtain ⟨p, q, u, ho⟩ := fk_bin ho
  rw [ho] at hv
  obtain ⟨v1, l1, e1, h1, hv⟩ := VL_cons_inv hv
  obtain ⟨v2, l2, rfl, h2, hv⟩ := VL_cons_inv hv
  obtain rfl := VL_nil_inv hv
  have e1 : [act.eval p, act.eval q] = [v1, v2] := e1
  injection e1 with e1 e2
  injection e2 with e2 _
  subst e1; subst e2
  refine ⟨.bool s, rfl, fun w => ?_⟩
  simp only [execOp, ho]
  rw [← hs]
  exact run_value ((eqTop_sound ht (hE_wr w) (hx φ _ h1) (hy φ _ h2) e p q).2)
theorem sy_val {i n : Int} (hi : Env.val (.int .i64 i) = .int .i64 n) : ∀ φ u, VR φ (sy i) u → VR (φG 0) (.int .i64 n) u := fun _ u h => (show u = Env.val (.int .i64 i) from h).trans hi
theorem ss_lt {P : Program} {t : Nat} {i j n m : Int} {b : Bool} (hi : Env.val (.int .i64 i) = .int .i64 n) (hj : Env.val (.int .i64 j) = .int .i64 m) (hb : decide (n < m) = b) : FactOk P (.bin .lss t, .cons (sy i) (.cons (sy j) .nil), .bool b) :=
  binFact (a' := .int .i64 n) (b' := .int .i64 m) (z' := .bool (iblt n m)) (by simp) (by simp) (fun φ u h => (show u = Env.val (.int .i64 i) from h).trans hi) (fun φ u h => (show u = Env.val (.int .i64 j) from h).trans hj) rfl fun φ v h => by
    have h : v = .bool (iblt n m) := h
    rw [h]
    show Value.bool _ = Value.bool b
    rw [← hb, iblt_iff]
theorem ss_gt {P : Program} {t : Nat} {i j n m : Int} {b : Bool} (hi : Env.val (.int .i64 i) = .int .i64 n) (hj : Env.val (.int .i64 j) = .int .i64 m) (hb : decide (m < n) = b) : FactOk P (.bin .gtr t, .cons (sy i) (.cons (sy j) .nil), .bool b) :=
  binFact (a' := .int .i64 n) (b' := .int .i64 m) (z' := .bool (iblt m n)) (by simp) (by simp) (fun φ u h => (show u = Env.val (.int .i64 i) from h).trans hi) (fun φ u h => (show u = Env.val (.int .i64 j) from h).trans hj) rfl fun φ v h => by
    have h : v = .bool (iblt m n) := h
    rw [h]
    show Value.bool _ = Value.bool b
    rw [← hb, iblt_iff]
theorem eqInt_scal {tt : TT} {t : Nat} {n m : Int} {b : Bool} (hb : decide (n = m) = b) : eqTop tt hE t (.int .i64 n) (.int .i64 m) = some b := by
  rw [← hb]
  show some (ieq n m) = _
  congr 1
  cases n <;> cases m <;> simp only [ieq]
  · rename_i a b; show Nat.beq a b = _; rw [Bool.eq_iff_iff]; simp; omega
  · simp
  · simp
  · rename_i a b; show Nat.beq a b = _; rw [Bool.eq_iff_iff]; simp
theorem ss_eq {P : Program} {tt : TT} (ht : TTok P tt) {t : Nat} {i j n m : Int} {b : Bool} (hi : Env.val (.int .i64 i) = .int .i64 n) (hj : Env.val (.int .i64 j) = .int .i64 m) (hb : decide (n = m) = b) : FactOk P (.bin .eql t, .cons (sy i) (.cons (sy j) .nil), .bool b) :=
  eq_fact ht (sy_val hi) (sy_val hj) (eqInt_scal hb)
theorem ss_ne {P : Program} {tt : TT} (ht : TTok P tt) {t : Nat} {i j n m : Int} {b : Bool} (hi : Env.val (.int .i64 i) = .int .i64 n) (hj : Env.val (.int .i64 j) = .int .i64 m) (hb : decide (n ≠ m) = b) : FactOk P (.bin .neq t, .cons (sy i) (.cons (sy j) .nil), .bool b) :=
  ne_fact ht (sy_val hi) (sy_val hj) (eqInt_scal (b := decide (n = m)) rfl) (by rw [← hb]; simp)
end

/-- less, alike, greater -/
inductive R3 where | less | same | more
def cmpR (a b : Int) : R3 := if a < b then .less else if b < a then .more else .same
noncomputable def ir (r : R3) : AV := R3.rec (.int .i64 (.negSucc 0)) (.int .i64 (.ofNat 0)) (.int .i64 (.ofNat 1)) r
noncomputable def or3 (r : R3) (s : R3) : R3 := R3.rec (motive := fun _ => R3) .less s .more r
noncomputable def isL (r : R3) : Bool := R3.rec (motive := fun _ => Bool) true false false r
noncomputable def isG (r : R3) : Bool := R3.rec (motive := fun _ => Bool) false false true r
noncomputable def isN (r : R3) : Bool := R3.rec (motive := fun _ => Bool) true false true r
/-- Compare -/
noncomputable def factsC (r : R3) : FK → AV → Option AV := facts (.cons (.bin .lss 3, .cons (sy 0) (.cons (sy 1) .nil), .bool (isL r)) (.cons (.bin .gtr 3, .cons (sy 0) (.cons (sy 1) .nil), .bool (isG r)) .nil))
theorem runC (r : R3) : isV (ir r) (callAt ⟨Tb2.tt.t, factsC r⟩ Tb2.ft noOrc 30 49 (.cons (sy 0) (.cons (sy 1) .nil)) hE) = true := by
  cases r
  · kernel_rfl
  · kernel_rfl
  · kernel_rfl
noncomputable def arr (a : AV) : AV := .agg a
noncomputable def v3 (i : Int) (j : Int) (k : Int) : AV := .agg (.cons (sy i) (.cons (sy j) (.cons (sy k) .nil)))
/-- selector.Order -/
noncomputable def tabC (l : List (AV × AV × R3)) : List (AV × AV) := l.map fun p => (.cons p.1 (.cons p.2.1 .nil), ir p.2.2)
noncomputable def orcO3 (a b c : R3) (f : Nat) : Option (AV → Hp → CR) := sel (Nat.beq f 49) (some (orcTab (.cons (.cons (sy 1) (.cons (sy 6) .nil), ir a) (.cons (.cons (sy 2) (.cons (sy 7) .nil), ir b) (.cons (.cons (sy 3) (.cons (sy 8) .nil), ir c) .nil))))) none
noncomputable def runO3 (a b c : R3) : Bool := isV (ir (or3 a (or3 b c))) (callAt Tb2.tt Tb2.ft (orcO3 a b c) 30 50 (.cons (v3 1 2 3) (.cons (v3 6 7 8) .nil)) hE)
theorem runO3_all (a b c : R3) : runO3 a b c = true := by
  cases a <;> cases b <;> cases c <;> kernel_rfl
/-- Less -/
noncomputable def key5 (i : Int) (j : Int) (k : Int) (l : Int) (m : Int) : AV := .agg (.cons (sy i) (.cons (sy j) (.cons (sy k) (.cons (sy l) (.cons (sy m) .nil)))))
noncomputable def orcL (a b c : R3) (f : Nat) : Option (AV → Hp → CR) := sel (Nat.beq f 49) (some (orcTab (.cons (.cons (sy 0) (.cons (sy 5) .nil), ir a) (.cons (.cons (sy 4) (.cons (sy 9) .nil), ir c) .nil)))) (sel (Nat.beq f 50) (some (orcTab (.cons (.cons (v3 1 2 3) (.cons (v3 6 7 8) .nil), ir b) .nil))) none)
noncomputable def runL (a b c : R3) : Bool := isV (.bool (isL (or3 a (or3 b c)))) (callAt Tb2.tt Tb2.ft (orcL a b c) 30 15 (.cons (key5 0 1 2 3 4) (.cons (key5 5 6 7 8 9) .nil)) hE)
theorem runL_all (a b c : R3) : runL a b c = true := by
  cases a <;> cases b <;> cases c <;> kernel_rfl
/-- the document's Less -/
noncomputable def factsR (a b c d e : R3) : FK → AV → Option AV := facts (.cons (.bin .neq 3, .cons (sy 0) (.cons (sy 5) .nil), .bool (isN a)) (.cons (.bin .lss 3, .cons (sy 0) (.cons (sy 5) .nil), .bool (isL a))
  (.cons (.bin .neq 3, .cons (sy 1) (.cons (sy 6) .nil), .bool (isN b)) (.cons (.bin .lss 3, .cons (sy 1) (.cons (sy 6) .nil), .bool (isL b))
  (.cons (.bin .neq 3, .cons (sy 2) (.cons (sy 7) .nil), .bool (isN c)) (.cons (.bin .lss 3, .cons (sy 2) (.cons (sy 7) .nil), .bool (isL c))
  (.cons (.bin .neq 3, .cons (sy 3) (.cons (sy 8) .nil), .bool (isN d)) (.cons (.bin .lss 3, .cons (sy 3) (.cons (sy 8) .nil), .bool (isL d))
  (.cons (.bin .lss 3, .cons (sy 4) (.cons (sy 9) .nil), .bool (isL e)) .nil)))))))))
noncomputable def runR (a b c d e : R3) : Bool := isV (.bool (isL (or3 a (or3 (or3 b (or3 c d)) e)))) (callAt ⟨Tb2.tt.t, factsR a b c d e⟩ Tb2.ft noOrc 30 16 (.cons (key5 0 1 2 3 4) (.cons (key5 5 6 7 8 9) .nil)) hE)
theorem runR_all (a b c d e : R3) : runR a b c d e = true := by
  cases a <;> cases b <;> cases c <;> cases d <;> cases e <;> kernel_rfl
end Go.Exe
