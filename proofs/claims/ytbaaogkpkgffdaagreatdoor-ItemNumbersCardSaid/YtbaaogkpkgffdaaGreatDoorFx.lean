/- A part of an executor of the model over abstract values, and what it tells of the calls. -/
import Derived.Test.YtbaaogkpkgffdaaGreatDoorX24
import Derived.KernelRfl
namespace Go.Exe
open Go
set_option linter.unusedSectionVars false
section
variable [Env]
theorem fk_min {o : Op} (h : fk o = .min) : ∃ c, o = .call c ∧ c.callee = .builtin .min := by
  unfold fk at h
  split at h <;> first | (cases h; done) | skip
  rename_i c
  split at h
  · rename_i b hb
    unfold fkB at h
    split at h <;> first | (cases h; done) | (split at h <;> cases h; done) | skip
    exact ⟨c, rfl, hb⟩
  · cases h
theorem fk_max {o : Op} (h : fk o = .max) : ∃ c, o = .call c ∧ c.callee = .builtin .max := by
  unfold fk at h
  split at h <;> first | (cases h; done) | skip
  rename_i c
  split at h
  · rename_i b hb
    unfold fkB at h
    split at h <;> first | (cases h; done) | (split at h <;> cases h; done) | skip
    exact ⟨c, rfl, hb⟩
  · cases h
/-- what a built-in function of two numbers answers -/
theorem bt_run {P : Program} {o : Oper} {act : Act} {c : Call} {b : Builtin} {v : Value} {s : Sem Value} (ho : o.op = .call c) (hc : c.callee = .builtin b) (hb : ∀ cs, builtin b c.argTypes o.type cs (c.args.map act.eval) = (do pure (.value (← s)))) (hs : ∀ w, s.run P w = .ok v w) (w : World) :
    (execOp act.eval o).run P w = .ok (.value v) w := by
  have hexec : execOp act.eval o = (do let d ← resolve act.eval c o.type; invoke d.target d.args) := by simp only [execOp, ho]
  rw [hexec]
  simp only [resolve, hc]
  have : (do let d ← (pure { target := Target.builtin b c.argTypes o.type (c.args.map fun x => match x with | .const _ => true | _ => false), args := c.args.map act.eval } : Sem Deferred); invoke d.target d.args : Sem Next) = invoke (Target.builtin b c.argTypes o.type (c.args.map fun x => match x with | .const _ => true | _ => false)) (c.args.map act.eval) := rfl
  show (Sem.bind (Sem.pure _) _ : Sem Next).run P w = _
  simp only [Sem.bind, invoke, hb]
  exact run_value (hs w)
theorem args2 {φ : PM} {c : Call} {b : Builtin} {act : Act} {x y : AV} (hc : c.callee = .builtin b) (hv : VL φ (.cons x (.cons y .nil)) ((Op.call c).operands.toList.map act.eval)) : ∃ u v, VR φ x u ∧ VR φ y v ∧ c.args.map act.eval = #[u, v] := by
  obtain ⟨u, l1, e1, h1, hv⟩ := VL_cons_inv hv
  obtain ⟨v, l2, rfl, h2, hv⟩ := VL_cons_inv hv
  obtain rfl := VL_nil_inv hv
  refine ⟨u, v, h1, h2, ?_⟩
  apply Array.ext'
  rw [← e1]
  simp [Op.operands, Call.operands, hc]
theorem min_fact {P : Program} {i j : Int} {n m z : Int} (hi : Env.val (.int .i64 i) = .int .i64 n) (hj : Env.val (.int .i64 j) = .int .i64 z) (hz : min n m = z) : FactOk P (.min, .cons (sy i) (.cons (.int .i64 m) .nil), sy j) := by
  refine ⟨(by intro h; cases h), fun o φ act ho hv => ?_⟩
  obtain ⟨c, hoc, hc⟩ := fk_min ho
  rw [hoc] at hv
  obtain ⟨u, v, h1, h2, hargs⟩ := args2 hc hv
  obtain rfl : u = .int .i64 n := (show u = Env.val (.int .i64 i) from h1).trans hi
  obtain rfl : v = .int .i64 m := h2
  refine ⟨.int .i64 z, hj.symm, bt_run (s := Builtin.min_ c.argTypes o.type #[.int .i64 n, .int .i64 m]) hoc hc (fun cs => by rw [hargs]; rfl) fun w => ?_⟩
  have e : (if m < n then m else n) = z := by rw [← hz]; split <;> omega
  simp [Builtin.min_, Builtin.min2, e]
theorem max_fact {P : Program} {i j : Int} {n m z : Int} (hi : Env.val (.int .i64 i) = .int .i64 n) (hj : Env.val (.int .i64 j) = .int .i64 z) (hz : max n m = z) : FactOk P (.max, .cons (sy i) (.cons (.int .i64 m) .nil), sy j) := by
  refine ⟨(by intro h; cases h), fun o φ act ho hv => ?_⟩
  obtain ⟨c, hoc, hc⟩ := fk_max ho
  rw [hoc] at hv
  obtain ⟨u, v, h1, h2, hargs⟩ := args2 hc hv
  obtain rfl : u = .int .i64 n := (show u = Env.val (.int .i64 i) from h1).trans hi
  obtain rfl : v = .int .i64 m := h2
  refine ⟨.int .i64 z, hj.symm, bt_run (s := Builtin.max_ c.argTypes o.type #[.int .i64 n, .int .i64 m]) hoc hc (fun cs => by rw [hargs]; rfl) fun w => ?_⟩
  have e : (if m > n then m else n) = z := by rw [← hz]; split <;> omega
  simp [Builtin.max_, Builtin.max2, e]
theorem add_fact {P : Program} {t : Nat} {i j : Int} {n m z : Int} (hi : Env.val (.int .i64 i) = .int .i64 n) (hj : Env.val (.int .i64 j) = .int .i64 z) (hz : iwrap .i64 (n + m) = z) : FactOk P (.bin .add t, .cons (sy i) (.cons (.int .i64 m) .nil), sy j) :=
  binFact (a' := .int .i64 n) (b' := .int .i64 m) (z' := .int .i64 (iwrap .i64 (n + m))) (by simp) (by simp) (fun φ u h => (show u = Env.val (.int .i64 i) from h).trans hi) (fun _ _ h => h) rfl fun φ v h => by
    have h : v = .int .i64 (iwrap .i64 (n + m)) := h
    rw [h, hz]; exact hj.symm
theorem sub_fact {P : Program} {t : Nat} {i j : Int} {n m z : Int} (hi : Env.val (.int .i64 i) = .int .i64 n) (hj : Env.val (.int .i64 j) = .int .i64 z) (hz : iwrap .i64 (n - m) = z) : FactOk P (.bin .sub t, .cons (sy i) (.cons (.int .i64 m) .nil), sy j) :=
  binFact (a' := .int .i64 n) (b' := .int .i64 m) (z' := .int .i64 (iwrap .i64 (n - m))) (by simp) (by simp) (fun φ u h => (show u = Env.val (.int .i64 i) from h).trans hi) (fun _ _ h => h) rfl fun φ v h => by
    have h : v = .int .i64 (iwrap .i64 (n - m)) := h
    rw [h, hz]; exact hj.symm
end
end Go.Exe
