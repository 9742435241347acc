/- A part of an executor of the model over abstract values, and what it tells of the calls. -/
import Derived.Test.YtbaaogkpkgffdaaGreatDoorX23
namespace Go.Exe
open Go
set_option linter.unusedSectionVars false

/-! ### facts about symbols, in a table -/
deriving instance DecidableEq for FK
noncomputable def facts (T : List (FK × AV × AV)) (k : FK) (a : AV) : Option AV := List.rec (motive := fun _ => Option AV) none (fun p _ ih => sel (decide (k = p.1)) (sel (eqAV a p.2.1) (some p.2.2) ih) ih) T
section
variable [Env]
def FactOk (P : Program) (p : FK × AV × AV) : Prop := p.1 ≠ .none ∧ ∀ (o : Oper) (φ : PM) (act : Act), fk o.op = p.1 → VL φ p.2.1 (o.op.operands.toList.map act.eval) → ∃ v, VR φ p.2.2 v ∧ ∀ w, (execOp act.eval o).run P w = .ok (.value v) w
theorem facts_ok {P : Program} : ∀ {T : List (FK × AV × AV)}, (∀ p ∈ T, FactOk P p) → FactsOk P (facts T) := by
  intro T hT o φ act args x hv e
  induction T with
  | nil => cases e
  | cons p T ih =>
    have ih := ih fun q hq => hT q (List.mem_cons_of_mem _ hq)
    replace e : sel (decide (fk o.op = p.1)) (sel (eqAV args p.2.1) (some p.2.2) (facts T (fk o.op) args)) (facts T (fk o.op) args) = some x := e
    cases h1 : decide (fk o.op = p.1) with
    | false => rw [h1] at e; exact ih e
    | true =>
      rw [h1] at e
      have h1 := of_decide_eq_true h1
      replace e : sel (eqAV args p.2.1) (some p.2.2) (facts T (fk o.op) args) = some x := e
      cases h2 : eqAV args p.2.1 with
      | false => rw [h2] at e; exact ih e
      | true =>
        rw [h2] at e
        cases e
        rw [eqAV_iff h2] at hv
        obtain ⟨k1, k2⟩ := hT p (List.mem_cons_self ..)
        exact ⟨by rw [h1]; exact k1, k2 o φ act h1 hv⟩

theorem fk_bin {o : Op} {op : BinOp} {t : Nat} (h : fk o = .bin op t) : ∃ x y u, o = .binOp op t x y u := by
  unfold fk at h
  split at h <;> first | (cases h; done) | skip
  · cases h; exact ⟨_, _, _, rfl⟩
  · split at h
    · unfold fkB at h
      split at h <;> first | (cases h; done) | (split at h <;> cases h)
    · cases h

/-- a fact of arithmetic -/
theorem binFact {P : Program} {op : BinOp} {t : Nat} {a b z a' b' z' : AV} (n1 : op ≠ .eql) (n2 : op ≠ .neq) (ha : ∀ φ u, VR φ a u → VR φ a' u) (hb : ∀ φ u, VR φ b u → VR φ b' u) (hz : arith op a' b' = some z') (hr : ∀ φ v, VR φ z' v → VR φ z v) :
    FactOk P (.bin op t, .cons a (.cons b .nil), z) := by
  refine ⟨(by intro h; cases h), fun o φ act ho hv => ?_⟩
  obtain ⟨x, y, u, ho⟩ := fk_bin ho
  rw [ho] at hv
  obtain ⟨v1, l1, e1, h1, hv⟩ := VL_cons_inv hv
  obtain ⟨v2, l2, rfl, h2, hv⟩ := VL_cons_inv hv
  obtain rfl := VL_nil_inv hv
  have e1 : [act.eval x, act.eval y] = [v1, v2] := e1
  injection e1 with e1 e2
  injection e2 with e2 _
  obtain ⟨r, hrun, hv⟩ := arith_sound (P := P) (ha φ _ h1) (hb φ _ h2) hz t
  refine ⟨r, hr φ r hv, fun w => ?_⟩
  have hg : (eqGuard op t x y (act.eval x) (act.eval y)).run P w = .ok () w := by
    cases op <;> first | exact absurd rfl n1 | exact absurd rfl n2 | simp [eqGuard]
  simp only [execOp, ho]
  refine run_value ?_
  rw [← e1, ← e2] at hrun
  simp [hg, hrun w]
/-- a symbol against a number -/
theorem sy_lt {P : Program} {t : Nat} {i : Int} {n m : Int} {b : Bool} (hv : Env.val (.int .i64 i) = .int .i64 n) (hb : decide (n < m) = b) : FactOk P (.bin .lss t, .cons (sy i) (.cons (.int .i64 m) .nil), .bool b) :=
  binFact (a' := .int .i64 n) (b' := .int .i64 m) (z' := .bool (iblt n m)) (by simp) (by simp) (fun φ u h => (show u = Env.val (.int .i64 i) from h).trans hv) (fun _ _ h => h) rfl fun φ v h => by
    have h : v = .bool (iblt n m) := h
    rw [h]
    show Value.bool _ = Value.bool b
    rw [← hb, iblt_iff]
theorem sy_gt {P : Program} {t : Nat} {i : Int} {n m : Int} {b : Bool} (hv : Env.val (.int .i64 i) = .int .i64 n) (hb : decide (m < n) = b) : FactOk P (.bin .gtr t, .cons (sy i) (.cons (.int .i64 m) .nil), .bool b) :=
  binFact (a' := .int .i64 n) (b' := .int .i64 m) (z' := .bool (iblt m n)) (by simp) (by simp) (fun φ u h => (show u = Env.val (.int .i64 i) from h).trans hv) (fun _ _ h => h) rfl fun φ v h => by
    have h : v = .bool (iblt m n) := h
    rw [h]
    show Value.bool _ = Value.bool b
    rw [← hb, iblt_iff]
end
end Go.Exe
