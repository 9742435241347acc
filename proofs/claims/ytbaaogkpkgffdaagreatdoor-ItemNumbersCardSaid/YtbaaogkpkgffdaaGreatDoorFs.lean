/- Facts of texts that symbols stand for: a length, a byte, two joined. -/
import Derived.Test.YtbaaogkpkgffdaaGreatDoorCO0
import Derived.Laws.Strings
namespace Go.Exe
open Go
set_option linter.unusedSectionVars false
section
variable [Env]
theorem fk_index {o : Op} {t : Nat} (h : fk o = .index t) : ∃ x y, o = .index t x y := by
  unfold fk at h
  split at h <;> first | (cases h; done) | skip
  · cases h; exact ⟨_, _, rfl⟩
  · split at h
    · rename_i c _ b hb
      unfold fkB at h
      split at h <;> first | (cases h; done) | (split at h <;> cases h; done)
    · cases h
theorem fk_len {o : Op} {t : Nat} (h : fk o = .len t) : ∃ c, o = .call c ∧ c.callee = .builtin .len ∧ c.argTypes[0]? = some t := by
  unfold fk at h
  split at h <;> first | (cases h; done) | skip
  rename_i c
  split at h
  · rename_i b hb
    unfold fkB at h
    split at h <;> first | (cases h; done) | skip
    · split at h
      · rename_i t' ht
        cases h
        exact ⟨c, rfl, hb, ht⟩
      · cases h
  · cases h
theorem args1 {φ : PM} {c : Call} {b : Builtin} {act : Act} {x : AV} (hc : c.callee = .builtin b) (hv : VL φ (.cons x .nil) ((Op.call c).operands.toList.map act.eval)) : ∃ u, VR φ x u ∧ c.args.map act.eval = #[u] := by
  obtain ⟨u, l1, e1, h1, hv⟩ := VL_cons_inv hv
  obtain rfl := VL_nil_inv hv
  refine ⟨u, h1, ?_⟩
  apply Array.ext'
  rw [← e1]
  simp [Op.operands, Call.operands, hc]
/-- the length of a text that a symbol stands for -/
theorem len_fact {P : Program} {t : Nat} (ht : P.underlying t = some .string) {x : AV} {s : ByteArray} {j : Int} (hx : ∀ φ u, VR φ x u → u = .string s) (hj : Env.val (.int .i64 j) = .int .i64 s.size) : FactOk P (.len t, .cons x .nil, sy j) := by
  refine ⟨(by intro h; cases h), fun o φ act ho hv => ?_⟩
  obtain ⟨c, hoc, hc, hts⟩ := fk_len ho
  rw [hoc] at hv
  obtain ⟨u, h1, hargs⟩ := args1 hc hv
  obtain rfl := hx φ u h1
  refine ⟨.int .i64 s.size, hj.symm, bt_run (s := Builtin.len_ c.argTypes o.type #[.string s]) hoc hc (fun cs => by rw [hargs]; rfl) fun w => ?_⟩
  simp [Builtin.len_, hts, run_underlying ht, goInt]
/-- a byte of such a text -/
theorem index_fact {P : Program} {t : Nat} (ht : P.underlying t = some .string) {x z : AV} {s : ByteArray} {k : Nat} {b : UInt8} (hx : ∀ φ u, VR φ x u → u = .string s) (hb : s.data.toList[k]? = some b) (hz : ∀ φ, VR φ z (.int .u8 b.toNat)) : FactOk P (.index t, .cons x (.cons (.int .i64 k) .nil), z) := by
  refine ⟨(by intro h; cases h), fun o φ act ho hv => ?_⟩
  obtain ⟨p, q, ho⟩ := fk_index ho
  rw [ho] at hv
  obtain ⟨v1, l1, e1, h1, hv⟩ := VL_cons_inv hv
  obtain ⟨v2, l2, rfl, h2, hv⟩ := VL_cons_inv hv
  obtain rfl := VL_nil_inv hv
  have e1 : [act.eval p, act.eval q] = [v1, v2] := e1
  injection e1 with f1 f2
  injection f2 with f2 _
  obtain rfl := hx _ _ h1
  obtain rfl : v2 = .int .i64 k := h2
  refine ⟨_, hz φ, fun w => ?_⟩
  simp only [execOp, ho]
  refine run_value ?_
  obtain ⟨hk, hkb⟩ := List.getElem?_eq_some_iff.1 hb
  have hk' : k < s.size := by simpa using hk
  rw [f1, f2, run_index_string w t s .i64 k ht, dif_pos ⟨by omega, by exact_mod_cast hk'⟩]
  congr 2
  rw [← hkb]
  rfl
/-- two texts joined -/
theorem cat_fact {P : Program} {t : Nat} {x y z : AV} {a b : ByteArray} (hx : ∀ φ u, VR φ x u → u = .string a) (hy : ∀ φ u, VR φ y u → u = .string b) (hz : ∀ φ, VR φ z (.string (a ++ b))) (hs : a.size + b.size ≤ 9223372036854775807) : FactOk P (.bin .add t, .cons x (.cons y .nil), z) := by
  refine ⟨(by intro h; cases h), fun o φ act ho hv => ?_⟩
  obtain ⟨p, q, u, ho⟩ := fk_bin ho
  rw [ho] at hv
  obtain ⟨v1, l1, e1, h1, hv⟩ := VL_cons_inv hv
  obtain ⟨v2, l2, rfl, h2, hv⟩ := VL_cons_inv hv
  obtain rfl := VL_nil_inv hv
  have e1 : [act.eval p, act.eval q] = [v1, v2] := e1
  injection e1 with f1 f2
  injection f2 with f2 _
  obtain rfl := hx _ _ h1
  obtain rfl := hy _ _ h2
  refine ⟨_, hz φ, fun w => ?_⟩
  simp only [execOp, ho]
  refine run_value ?_
  rw [f1, f2]
  simp [eqGuard, binOp, Op.stringOp]
  omega
end
end Go.Exe
