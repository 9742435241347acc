/- A part of an executor of the model over abstract values, and what it tells of the calls. -/
import Derived.Test.YtbaaogkpkgffdaaGreatDoorX11
namespace Go.Exe
open Go
set_option linter.unusedSectionVars false
variable [Env]

section
variable (tt : TT)
noncomputable def eqNilS (a b : AV) : Option Bool := onNils (onSl none (fun _ _ _ _ _ _ => onNils none (some false) b) a) (onNils (onSl none (fun _ _ _ _ _ _ => some false) b) (some true) b) a
noncomputable def eqNilM (a b : AV) : Option Bool := onNilm (onMap none (fun _ => onNilm none (some false) b) a) (onNilm (onMap none (fun _ => some false) b) (some true) b) a
noncomputable def eqNilF (a b : AV) : Option Bool := onNilf (onFn none (fun _ _ => onNilf none (some false) b) a) (onNilf (onFn none (fun _ _ => some false) b) (some true) b) a
noncomputable def eqFlat (te : TE) (h : Hp) (a b : AV) : Option Bool := List.rec (motive := fun _ => Option Bool) none (fun _ _ _ => sel te.isAgg (onAgg none (fun xs => onAgg none (eqAgg h te.cmp xs) b) a) (sel (isOne a) (sel (isOne b) (eqAgg h te.cmp (.cons a .nil) (.cons b .nil)) none) none)) te.cmp
noncomputable def eqTe (h : Hp) (a b : AV) (te : TE) : Option Bool := TI.rec (motive := fun _ => Option Bool) (fun _ => none) (eqFlat te h a b) none (fun _ => eqFlat te h a b) (fun _ => eqNilS a b) (fun _ _ => eqFlat te h a b) (fun _ _ => eqNilM a b) (fun _ => eqFlat te h a b) (eqNilF a b) none te.ti
noncomputable def eqOther (h : Hp) (t : Nat) (a b : AV) : Option Bool := Option.rec none (eqTe h a b) (ty tt t)
/-- a number or a text, twice the same symbol -/
noncomputable def symTop (a b : AV) : Bool := sel (symSame .int a b) true (symSame .str a b)
noncomputable def eqTop0 (h : Hp) (t : Nat) (a b : AV) : Option Bool := onInt (onStr (eqOther tt h t a b) (fun n x => onStr none (eqStr2 n x) b) a) (fun k n => onInt none (eqInt2 k n) b) a
noncomputable def eqTop (h : Hp) (t : Nat) (a b : AV) : Option Bool := sel (symTop a b) (some true) (eqTop0 tt h t a b)
noncomputable def retB (h : Hp) (o : Option Bool) : R1 := Option.rec (.fail 8) (fun b => .v (.bool b) h) o
noncomputable def retNB (h : Hp) (o : Option Bool) : R1 := Option.rec (.fail 8) (fun b => .v (.bool (nB b)) h) o
noncomputable def oAr (op : BinOp) (x y : Operand) (fr : Fr) (h : Hp) : R1 := ob (arith op (ev x fr) (ev y fr)) (ret h)
inductive BK where | ar | eq | ne
noncomputable def binK (op : BinOp) : BK := BinOp.rec (motive := fun _ => BK) .ar .ar .ar .ar .ar .ar .ar .ar .ar .ar .ar .eq .ne .ar .ar .ar .ar op
noncomputable def oBin (op : BinOp) (t : Nat) (x y : Operand) (_ : Nat) (fr : Fr) (h : Hp) : R1 := BK.rec (motive := fun _ => R1) (oAr op x y fr h) (retB h (eqTop tt h t (ev x fr) (ev y fr))) (retNB h (eqTop tt h t (ev x fr) (ev y fr))) (binK op)

variable {tt} {P : Program} {o : Oper} {act : Act} {φ : PM} {fr : Fr} {h : Hp} {w : World}

theorem eq_slice1 (d : Nat) {t el : Nat} (hd : P.underlying t = some (.slice el)) (x : Option Addr) (y z : Nat) : (Op.equalIn (d + 1) t (.slice none 0 0) (.slice x y z)).run P w = .ok x.isNone w := by simp [Op.equalIn, run_underlying hd]
theorem eq_slice2 (d : Nat) {t el : Nat} (hd : P.underlying t = some (.slice el)) (x : Addr) (y z : Nat) : (Op.equalIn (d + 1) t (.slice (some x) y z) (.slice none 0 0)).run P w = .ok false w := by simp [Op.equalIn, run_underlying hd]
theorem eq_map1 (d : Nat) {t k el : Nat} (hd : P.underlying t = some (.map k el)) (x : Option Nat) : (Op.equalIn (d + 1) t (.map none) (.map x)).run P w = .ok x.isNone w := by simp [Op.equalIn, run_underlying hd]
theorem eq_map2 (d : Nat) {t k el : Nat} (hd : P.underlying t = some (.map k el)) (x : Nat) : (Op.equalIn (d + 1) t (.map (some x)) (.map none)).run P w = .ok false w := by simp [Op.equalIn, run_underlying hd]
theorem eq_func1 (d : Nat) {t : Nat} {a b : Array TypeId} {c : Bool} (hd : P.underlying t = some (.func a b c)) (f : Fn) (vs : Array Value) : (Op.equalIn (d + 1) t (.func f #[] vs) .nilFunc).run P w = .ok false w := by simp [Op.equalIn, run_underlying hd]
theorem eq_func2 (d : Nat) {t : Nat} {a b : Array TypeId} {c : Bool} (hd : P.underlying t = some (.func a b c)) (f : Fn) (vs : Array Value) : (Op.equalIn (d + 1) t .nilFunc (.func f #[] vs)).run P w = .ok false w := by simp [Op.equalIn, run_underlying hd]
theorem eq_func3 (d : Nat) {t : Nat} {a b : Array TypeId} {c : Bool} (hd : P.underlying t = some (.func a b c)) : (Op.equalIn (d + 1) t .nilFunc .nilFunc).run P w = .ok true w := by simp [Op.equalIn, run_underlying hd]

/-- how '==' and '!=' come out -/
def EqRuns (P : Program) (w : World) (t : Nat) (u v : Value) (r : Bool) : Prop :=
  ∀ x y : Operand, (do eqGuard .eql t x y u v; binOp .eql t u v : Sem Value).run P w = .ok (.bool r) w ∧ (do eqGuard .neq t x y u v; binOp .neq t u v : Sem Value).run P w = .ok (.bool (!r)) w

theorem eqRuns_of_equal {t : Nat} {u v : Value} {r : Bool} (hk : (∃ a b, u = .bool a ∧ v = .bool b) ∨ (∃ a b, u = .pointer a ∧ v = .pointer b) ∨ (∃ a b c d e f, u = .slice a b c ∧ v = .slice d e f) ∨ (∃ a b, u = .map a ∧ v = .map b) ∨ (∃ a b, (u = .nilFunc ∨ u = .func (.func a) #[] b)) ∧ (∃ a b, (v = .nilFunc ∨ v = .func (.func a) #[] b)))
    (e : (Op.equal t u v).run P w = .ok r w) : EqRuns P w t u v r := by
  intro x y
  rcases hk with ⟨a, b, rfl, rfl⟩ | ⟨a, b, rfl, rfl⟩ | ⟨a, b, c, d, e', f, rfl, rfl⟩ | ⟨a, b, rfl, rfl⟩ | ⟨⟨a, b, h1⟩, ⟨c, d, h2⟩⟩
  · constructor <;> simp [eqGuard, binOp, e]
  · constructor <;> simp [eqGuard, binOp, e]
  · constructor <;> simp [eqGuard, binOp, e]
  · constructor <;> simp [eqGuard, binOp, e]
  · rcases h1 with rfl | rfl <;> rcases h2 with rfl | rfl <;> (constructor <;> simp [eqGuard, binOp, e])

theorem eqFlat_sound (kw : WR φ h w) {t : Nat} {te : TE} (hte : TEok P t te) {a b : AV} {u v : Value} (ha : VR φ a u) (hb : VR φ b v) {r : Bool} (e : eqFlat te h a b = some r) : EqRuns P w t u v r := by
  unfold eqFlat at e
  have hne : te.cmp ≠ [] := by
    intro e2; rw [e2] at e; cases e
  obtain ⟨hfl, hgd⟩ := hte.cmp hne
  obtain ⟨d, hd, _, hag⟩ := hte.und
  have hisT : isAggT P t = te.isAgg := by simp [isAggT, hd, hag]
  replace e : sel te.isAgg (onAgg none (fun xs => onAgg none (eqAgg h te.cmp xs) b) a) (sel (isOne a) (sel (isOne b) (eqAgg h te.cmp (.cons a .nil) (.cons b .nil)) none) none) = some r := by
    revert e
    cases hc : te.cmp with
    | nil => exact fun e => absurd hc hne
    | cons c cs => exact fun e => e
  cases hA : te.isAgg with
  | true =>
    rw [hA] at e
    cases a <;> try (cases e; done)
    rename_i xs
    cases b <;> try (cases e; done)
    rename_i ys
    obtain ⟨us, rfl, hus⟩ := ha
    obtain ⟨vs, rfl, hvs⟩ := hb
    have hall := eqAgg_sound (P := P) kw hus hvs e
    have hrun := eq_run (w := w) 20 hfl 9980 _ _ r hall
    have e1 : ∀ l : Array Value, valT P t l.toList = .agg l := fun l => by simp [valT, hisT, hA]
    rw [e1, e1] at hrun
    intro x y
    constructor
    · simp [run_eqGuard_agg w .eql t x y us vs hgd, run_eql_struct w t us vs, hrun]
    · simp [run_eqGuard_agg w .neq t x y us vs hgd, run_neq_struct w t us vs, hrun]
  | false =>
    rw [hA] at e
    obtain ⟨o1, e2⟩ := sel_some_inv e
    obtain ⟨o2, e3⟩ := sel_some_inv e2
    have hall := eqAgg_sound (P := P) kw (VL.cons ha (VL.nil φ)) (VL.cons hb (VL.nil φ)) e3
    have hrun := eq_run (w := w) 20 hfl 9980 _ _ r hall
    have e1 : ∀ v : Value, valT P t [v] = v := fun v => by simp [valT, hisT, hA]
    rw [e1, e1] at hrun
    -- of one cell: a bool or a pointer
    have hck : ∃ c, te.cmp = [c] ∧ ckOf P t = some c := by
      have hfl' := hfl
      unfold flatK at hfl'
      rw [hd] at hfl'
      cases d <;> simp [aggD, hA] at hag <;> (simp only at hfl'; split at hfl' <;> first | (cases hfl'; done) | (split at hfl' <;> first | (cases hfl'; done) | (rename_i c hc _; exact ⟨c, (Option.some.inj hfl').symm, hc⟩)))
    obtain ⟨c, hc, hck⟩ := hck
    rw [hc] at e3
    have e4 : eqL h [c] (.cons a .nil) (.cons b .nil) = some r := (sel_some_inv (sel_some_inv e3).2).2
    have e5 : andO (eqCell h c a b) (some true) = some r := e4
    obtain ⟨r', hr'⟩ : ∃ r', eqCell h c a b = some r' := by
      cases h1 : eqCell h c a b with
      | none => rw [h1] at e5; cases e5
      | some x => exact ⟨x, rfl⟩
    cases hsy : symSame c a b with
    | true =>
      have hr : r = true := by
        have : eqCell h c a b = some true := by unfold eqCell; rw [hsy]; rfl
        rw [this] at e5; cases e5; rfl
      obtain ⟨s, r1, r2, rfl, rfl, hk⟩ := symSame_inv hsy
      obtain rfl : u = Env.val s := ha
      obtain rfl : v = Env.val s := hb
      subst hr
      cases c with
      | bool =>
        cases s <;> first | (cases hk; done) | skip
        rename_i f cs
        obtain ⟨x, hx⟩ := Env.tyB f cs
        exact eqRuns_of_equal (.inl ⟨x, x, hx, hx⟩) hrun
      | int =>
        cases s <;> first | (cases hk; done) | skip
        rename_i k i
        obtain ⟨n, hn⟩ := Env.tyI k i
        rw [hn]
        intro x y
        constructor <;> simp [eqGuard, binOp, Op.intCmp]
      | str =>
        cases s <;> first | (cases hk; done) | skip
        rename_i k i
        obtain ⟨x, hn⟩ := Env.tyS k i
        rw [hn]
        intro y z
        constructor <;> simp [eqGuard, binOp, Op.stringOp]
      | ptr => cases hk
    | false =>
    replace hr' : eqCell0 h c a b = some r' := by
      unfold eqCell at hr'
      rw [hsy] at hr'
      exact hr'
    replace e5 : andO (eqCell0 h c a b) (some true) = some r := by
      unfold eqCell at e5
      rw [hsy] at e5
      exact e5
    cases c with
    | bool =>
      cases a <;> try (cases hr'; done)
      cases b <;> try (cases hr'; done)
      exact eqRuns_of_equal (.inl ⟨_, _, ha, hb⟩) hrun
    | int =>
      cases a <;> try (cases hr'; done)
      rename_i k n
      cases b <;> try (cases hr'; done)
      rename_i k' m
      obtain ⟨h1, h2⟩ := sel_some_inv (show sel (eqK k k') (some (ieq n m)) none = some r' from hr')
      have := eqK_iff h1
      subst this
      have hr : r = (n == m) := by
        rw [hr'] at e5; cases h2
        have : andO (some (ieq n m)) (some true) = some (ieq n m) := by cases ieq n m <;> rfl
        rw [this] at e5; cases e5; rw [ieq_iff]; rfl
      rw [show u = _ from ha, show v = _ from hb, hr]
      intro x y
      constructor <;> simp [eqGuard, binOp, Op.intCmp]
      rfl
    | str =>
      cases a <;> try (cases hr'; done)
      cases b <;> try (cases hr'; done)
      have hstr : ∀ (s t' : ByteArray) (r : Bool), (Op.equalIn (20 + 9980) t (.string s) (.string t')).run P w = .ok r w → r = (s.toList == t'.toList) := by
        intro s t' r hq
        have hu : P.underlying t = some .string := by
          unfold ckOf at hck; split at hck <;> first | assumption | (cases hck; done) | (split at hck <;> cases hck)
        rw [show (20 + 9980) = 9999 + 1 from rfl, run_equalIn_string w 9999 t s t' hu] at hq
        cases hq; rfl
      obtain ⟨rfl, _⟩ := ha
      obtain ⟨rfl, _⟩ := hb
      rw [hstr _ _ _ hrun]
      intro x y
      constructor <;> simp [eqGuard, binOp, Op.stringOp]
    | ptr =>
      have hp : ∀ {a : AV} {u : Value}, VR φ a u → (a = .nilp ∨ ∃ i o, a = .ptr i o) → ∃ x, u = .pointer x := by
        intro a u h1 h2
        rcases h2 with rfl | ⟨i, o, rfl⟩
        · exact ⟨none, h1⟩
        · obtain ⟨p, _, e⟩ := h1; exact ⟨_, e⟩
      have hca : (a = .nilp ∨ ∃ i o, a = .ptr i o) := by
        cases a <;> first | exact .inl rfl | exact .inr ⟨_, _, rfl⟩ | (cases hr'; done)
      have hcb : (b = .nilp ∨ ∃ i o, b = .ptr i o) := by
        rcases hca with rfl | ⟨i, o, rfl⟩ <;> (cases b <;> first | exact .inl rfl | exact .inr ⟨_, _, rfl⟩ | (cases hr'; done))
      obtain ⟨x1, rfl⟩ := hp ha hca
      obtain ⟨x2, rfl⟩ := hp hb hcb
      exact eqRuns_of_equal (.inr (.inl ⟨_, _, rfl, rfl⟩)) hrun

theorem eqTop_sound (ht : TTok P tt) (kw : WR φ h w) {t : Nat} {a b : AV} {u v : Value} (ha : VR φ a u) (hb : VR φ b v) {r : Bool} (e : eqTop tt h t a b = some r) : EqRuns P w t u v r := by
  cases hs : symTop a b with
  | true =>
    unfold eqTop at e
    rw [hs] at e
    cases e
    unfold symTop at hs
    cases h1 : symSame .int a b with
    | true =>
      obtain ⟨s, r, r', rfl, rfl, hk⟩ := symSame_inv h1
      obtain rfl : u = Env.val s := ha
      obtain rfl : v = Env.val s := hb
      cases s <;> first | (cases hk; done) | skip
      rename_i k i
      obtain ⟨n, hn⟩ := Env.tyI k i
      rw [hn]
      intro x y
      constructor <;> simp [eqGuard, binOp, Op.intCmp]
    | false =>
      rw [h1] at hs
      obtain ⟨s, r, r', rfl, rfl, hk⟩ := symSame_inv (show symSame .str a b = true from hs)
      obtain rfl : u = Env.val s := ha
      obtain rfl : v = Env.val s := hb
      cases s <;> first | (cases hk; done) | skip
      rename_i k i
      obtain ⟨x, hn⟩ := Env.tyS k i
      rw [hn]
      intro y z
      constructor <;> simp [eqGuard, binOp, Op.stringOp]
  | false =>
  replace e : eqTop0 tt h t a b = some r := by
    unfold eqTop at e
    rw [hs] at e
    exact e
  have other : eqOther tt h t a b = some r → EqRuns P w t u v r := by
    intro e
    unfold eqOther at e
    cases hte : ty tt t with
    | none => rw [hte] at e; cases e
    | some te =>
      rw [hte] at e
      replace e : eqTe h a b te = some r := e
      have hT := ht t te hte
      obtain ⟨d, hd, hti, _⟩ := hT.und
      unfold eqTe at e
      cases htie : te.ti with
      | int k => rw [htie] at e; cases e
      | bool => rw [htie] at e; exact eqFlat_sound kw hT ha hb e
      | str => rw [htie] at e; cases e
      | ptr el => rw [htie] at e; exact eqFlat_sound kw hT ha hb e
      | arr n el => rw [htie] at e; exact eqFlat_sound kw hT ha hb e
      | struct fs => rw [htie] at e; exact eqFlat_sound kw hT ha hb e
      | other => rw [htie] at e; cases e
      | slice el =>
        rw [htie] at e hti
        replace e : eqNilS a b = some r := e
        cases d <;> simp [TIok] at hti
        have n1 : ∀ x y z, (Op.equal t (.slice none 0 0) (.slice x y z)).run P w = .ok x.isNone w := fun x y z => eq_slice1 9999 hd x y z
        have n2 : ∀ x y z, (Op.equal t (.slice (some x) y z) (.slice none 0 0)).run P w = .ok false w := fun x y z => eq_slice2 9999 hd x y z
        cases a <;> try (cases e; done)
        · cases b <;> try (cases e; done)
          obtain ⟨p, c, _, rfl, _⟩ := ha
          rw [show v = _ from hb]
          cases e
          exact eqRuns_of_equal (.inr (.inr (.inl ⟨_, _, _, _, _, _, rfl, rfl⟩))) (n2 _ _ _)
        · rw [show u = _ from ha]
          cases b <;> try (cases e; done)
          · obtain ⟨p, c, _, rfl, _⟩ := hb
            cases e
            exact eqRuns_of_equal (.inr (.inr (.inl ⟨_, _, _, _, _, _, rfl, rfl⟩))) (n1 _ _ _)
          · rw [show v = _ from hb]
            cases e
            exact eqRuns_of_equal (.inr (.inr (.inl ⟨_, _, _, _, _, _, rfl, rfl⟩))) (n1 _ _ _)
      | map k el =>
        rw [htie] at e hti
        replace e : eqNilM a b = some r := e
        cases d <;> simp [TIok] at hti
        have n1 : ∀ x, (Op.equal t (.map none) (.map x)).run P w = .ok x.isNone w := fun x => eq_map1 9999 hd x
        have n2 : ∀ x, (Op.equal t (.map (some x)) (.map none)).run P w = .ok false w := fun x => eq_map2 9999 hd x
        cases a <;> try (cases e; done)
        · cases b <;> try (cases e; done)
          obtain ⟨p, _, rfl⟩ := ha
          rw [show v = _ from hb]
          cases e
          exact eqRuns_of_equal (.inr (.inr (.inr (.inl ⟨_, _, rfl, rfl⟩)))) (n2 _)
        · rw [show u = _ from ha]
          cases b <;> try (cases e; done)
          · obtain ⟨p, _, rfl⟩ := hb
            cases e
            exact eqRuns_of_equal (.inr (.inr (.inr (.inl ⟨_, _, rfl, rfl⟩)))) (n1 _)
          · rw [show v = _ from hb]
            cases e
            exact eqRuns_of_equal (.inr (.inr (.inr (.inl ⟨_, _, rfl, rfl⟩)))) (n1 _)
      | func =>
        rw [htie] at e hti
        replace e : eqNilF a b = some r := e
        cases d <;> simp [TIok] at hti
        cases a <;> try (cases e; done)
        · cases b <;> try (cases e; done)
          obtain ⟨vs, rfl, _⟩ := ha
          rw [show v = _ from hb]
          cases e
          exact eqRuns_of_equal (.inr (.inr (.inr (.inr ⟨⟨_, _, .inr rfl⟩, ⟨0, #[], .inl rfl⟩⟩)))) (eq_func1 9999 hd _ _)
        · rw [show u = _ from ha]
          cases b <;> try (cases e; done)
          · obtain ⟨vs, rfl, _⟩ := hb
            cases e
            exact eqRuns_of_equal (.inr (.inr (.inr (.inr ⟨⟨0, #[], .inl rfl⟩, ⟨_, _, .inr rfl⟩⟩)))) (eq_func2 9999 hd _ _)
          · rw [show v = _ from hb]
            cases e
            exact eqRuns_of_equal (.inr (.inr (.inr (.inr ⟨⟨0, #[], .inl rfl⟩, ⟨0, #[], .inl rfl⟩⟩)))) (eq_func3 9999 hd)
  cases a with
  | int k n =>
    cases b <;> try (cases e; done)
    rename_i k' m
    obtain ⟨h1, h2⟩ := sel_some_inv (show sel (eqK k k') (some (ieq n m)) none = some r from e)
    have := eqK_iff h1
    subst this
    cases h2
    rw [show u = _ from ha, show v = _ from hb, ieq_iff]
    intro x y
    constructor
    · simp [eqGuard, binOp, Op.intCmp]; try rfl
    · simp [eqGuard, binOp, Op.intCmp]; try (rw [Bool.eq_iff_iff]; simp)
  | str n x =>
    cases b <;> try (cases e; done)
    rename_i m y
    have e2 : sel (Nat.beq n m) (Nat.beq x y) false = r := by cases e; rfl
    obtain ⟨rfl, hx⟩ := ha
    obtain ⟨rfl, hy⟩ := hb
    have : r = ((strB n x).toList == (strB m y).toList) := by
      rw [strB_toList, strB_toList, ← e2]
      cases h1 : Nat.beq n m with
      | true =>
        have := Nat.eq_of_beq_eq_true h1
        subst this
        cases h2 : Nat.beq x y with
        | true => rw [Nat.eq_of_beq_eq_true h2]; simp
        | false =>
          have hne := beq_ne h2
          simp only [sel_true]
          symm; rw [beq_eq_false_iff_ne]
          exact fun e => hne (bytesOf_inj hx hy e)
      | false =>
        have hne := beq_ne h1
        simp only [sel_false]
        symm; rw [beq_eq_false_iff_ne]
        exact fun e => hne (by have := congrArg List.length e; simpa using this)
    rw [this]
    intro p q
    constructor <;> simp [eqGuard, binOp, Op.stringOp]
  | _ => exact other e

theorem oAr_sound (kf : FR φ fr act) {op : BinOp} {t u : Nat} {x y : Operand} (ho : o.op = .binOp op t x y u) (n1 : op ≠ .eql) (n2 : op ≠ .neq) : SoundP P o act φ h (oAr op x y fr h) := by
  unfold oAr
  refine ob_elim trivial fun z hz => ?_
  obtain ⟨r, hr, hv⟩ := arith_sound (P := P) (ev_sound kf x) (ev_sound kf y) hz t
  refine SoundP.value (v := r) (fun w => ?_) hv
  have hg : (eqGuard op t x y (act.eval x) (act.eval y)).run P w = .ok () w := by
    cases op <;> first | exact absurd rfl n1 | exact absurd rfl n2 | simp [eqGuard]
  simp only [execOp, ho]
  refine run_value ?_
  simp [hg, hr w]

theorem oBin_sound (ht : TTok P tt) (kf : FR φ fr act) (kw : WR φ h w) {op : BinOp} {t u : Nat} {x y : Operand} (ho : o.op = .binOp op t x y u) : SoundR P o act φ h w (oBin tt op t x y u fr h) := by
  have ar : op ≠ .eql → op ≠ .neq → SoundR P o act φ h w (oAr op x y fr h) := by
    intro n1 n2
    exact (oAr_sound kf ho n1 n2).read w
  have eq : ∀ r, eqTop tt h t (ev x fr) (ev y fr) = some r → EqRuns P w t (act.eval x) (act.eval y) r := fun r e => eqTop_sound ht kw (ev_sound kf x) (ev_sound kf y) e
  cases op with
  | eql =>
    show SoundR P o act φ h w (retB h (eqTop tt h t (ev x fr) (ev y fr)))
    cases e : eqTop tt h t (ev x fr) (ev y fr) with
    | none => trivial
    | some r =>
      refine SoundR.value (v := .bool r) ?_ rfl
      simp only [execOp, ho]
      exact run_value (eq r e x y).1
  | neq =>
    show SoundR P o act φ h w (retNB h (eqTop tt h t (ev x fr) (ev y fr)))
    cases e : eqTop tt h t (ev x fr) (ev y fr) with
    | none => trivial
    | some r =>
      refine SoundR.value (v := .bool (!r)) ?_ (by show _ = Value.bool (nB r); rw [nB_eq])
      simp only [execOp, ho]
      exact run_value (eq r e x y).2
  | _ => exact ar (by simp) (by simp)

/-- does an operator look at no world? -/
noncomputable def isScal (x : TI) : Bool := TI.rec (motive := fun _ => Bool) (fun _ => true) false true (fun _ => false) (fun _ => false) (fun _ _ => false) (fun _ _ => false) (fun _ => false) false false x
noncomputable def scalT (tt : TT) (t : Nat) : Bool := Option.rec false (fun te => isScal te.ti) (ty tt t)
noncomputable def pureBin (tt : TT) (op : BinOp) (t : Nat) : Bool := BinOp.rec (motive := fun _ => Bool) true true true true true true true true true true true (scalT tt t) (scalT tt t) true true true true op

theorem WR.bare {φ : PM} {h : Hp} {w : World} (k : WR φ h w) (w' : World) : WR φ ⟨h.n, .E, [], 0⟩ w' :=
  ⟨k.gl, fun i o e => by simp at e, fun i j p q e => by simp at e, fun i hi => ⟨by simp, (k.fresh i hi).2⟩⟩

theorem eqTop_scal {t : Nat} (hs : scalT tt t = true) {a b : AV} {r : Bool} (e : eqTop tt h t a b = some r) (h' : Hp) : eqTop tt h' t a b = some r := by
  have other : ∀ h, eqOther tt h t a b = none := by
    intro h
    unfold scalT at hs
    unfold eqOther
    cases hte : ty tt t with
    | none => rfl
    | some te =>
      rw [hte] at hs
      replace hs : isScal te.ti = true := hs
      show eqTe h a b te = none
      unfold eqTe
      cases htie : te.ti <;> first | rfl | (rw [htie] at hs; cases hs)
  have key : ∀ r, eqTop0 tt h t a b = some r → eqTop0 tt h' t a b = some r := by
    intro r e
    cases a <;> first | exact e | (rw [show eqTop0 tt h t _ b = eqOther tt h t _ b from rfl, other] at e; cases e)
  unfold eqTop at e ⊢
  cases hs : symTop a b with
  | true => rw [hs] at e; exact e
  | false => rw [hs] at e; exact key r e

theorem oBin_pure (ht : TTok P tt) (kf : FR φ fr act) (kw : WR φ h w) {op : BinOp} {t u : Nat} {x y : Operand} (ho : o.op = .binOp op t x y u) (hp : pureBin tt op t = true) : SoundP P o act φ h (oBin tt op t x y u fr h) := by
  have eq : scalT tt t = true → ∀ r, eqTop tt h t (ev x fr) (ev y fr) = some r → ∀ w', EqRuns P w' t (act.eval x) (act.eval y) r := fun hs r e w' => eqTop_sound ht (kw.bare w') (ev_sound kf x) (ev_sound kf y) (eqTop_scal hs e _)
  cases op with
  | eql =>
    show SoundP P o act φ h (retB h (eqTop tt h t (ev x fr) (ev y fr)))
    cases e : eqTop tt h t (ev x fr) (ev y fr) with
    | none => trivial
    | some r =>
      refine SoundP.value (v := .bool r) (fun w => ?_) rfl
      simp only [execOp, ho]
      exact run_value (eq hp r e w x y).1
  | neq =>
    show SoundP P o act φ h (retNB h (eqTop tt h t (ev x fr) (ev y fr)))
    cases e : eqTop tt h t (ev x fr) (ev y fr) with
    | none => trivial
    | some r =>
      refine SoundP.value (v := .bool (!r)) (fun w => ?_) (by show _ = Value.bool (nB r); rw [nB_eq])
      simp only [execOp, ho]
      exact run_value (eq hp r e w x y).2
  | _ => exact oAr_sound kf ho (by simp) (by simp)
end
end Go.Exe
