/- A part of an executor of the model over abstract values, and what it tells of the calls. -/
import Derived.Test.YtbaaogkpkgffdaaGreatDoorX10
import Derived.Laws.Small
namespace Go.Exe
open Go
set_option linter.unusedSectionVars false
variable [Env]

/-! ### equality of abstract values -/
noncomputable def eqBool (x y : Bool) : Option Bool := some (sel x y (nB y))
noncomputable def plain (h : Hp) (i : Pt) : Bool := blk false (fun _ _ _ mk => nB mk) h i
noncomputable def ptrEq (h : Hp) (i : Pt) (o : Nat) (j : Pt) (p : Nat) : Option Bool := sel (beqP i j) (some (Nat.beq o p)) (sel (plain h i) (sel (plain h j) (some false) none) none)
noncomputable def eqInt2 (k : IntKind) (n : Int) (k' : IntKind) (m : Int) : Option Bool := sel (eqK k k') (some (ieq n m)) none
noncomputable def eqStr2 (n a m b : Nat) : Option Bool := some (sel (Nat.beq n m) (Nat.beq a b) false)
noncomputable def eqAV0 (x y : AV) : Bool := decide (x = y)
/-- is a symbol one of a kind of cells? -/
noncomputable def symK (c : CK) (s : AV) : Bool := CK.rec (motive := fun _ => Bool) (onFn false (fun _ _ => true) s) (onInt false (fun _ _ => true) s) (onStr false (fun _ _ => true) s) false c
noncomputable def symSame (c : CK) (a b : AV) : Bool := onCons false (fun s _ => onCons false (fun t _ => sel (eqAV0 s t) (symK c s) false) b) a
noncomputable def eqCell0 (h : Hp) (c : CK) : AV → AV → Option Bool := CK.rec (motive := fun _ => AV → AV → Option Bool)
  (fun a b => onBool none (fun x => onBool none (eqBool x) b) a)
  (fun a b => onInt none (fun k n => onInt none (eqInt2 k n) b) a)
  (fun a b => onStr none (fun n x => onStr none (eqStr2 n x) b) a)
  (fun a b => onPtr (onNilp none (onPtr (onNilp none (some true) b) (fun _ _ => some false) b) a) (fun i o => onPtr (onNilp none (some false) b) (ptrEq h i o) b) a) c
noncomputable def eqCell (h : Hp) (c : CK) (a b : AV) : Option Bool := sel (symSame c a b) (some true) (eqCell0 h c a b)
noncomputable def andO (o k : Option Bool) : Option Bool := Option.rec none (fun t => sel t k (some false)) o
noncomputable def eqL (h : Hp) (ks : List CK) : AV → AV → Option Bool := List.rec (motive := fun _ => AV → AV → Option Bool) (fun _ _ => some true) (fun c _ ih a b => onCons none (fun x xs => onCons none (fun y ys => andO (eqCell h c x y) (ih xs ys)) b) a) ks
noncomputable def lenK (ks : List CK) : Nat := List.rec (motive := fun _ => Nat) 0 (fun _ _ n => Nat.succ n) ks
noncomputable def eqAgg (h : Hp) (ks : List CK) (a b : AV) : Option Bool := sel (Nat.beq (lenL a) (lenK ks)) (sel (Nat.beq (lenL b) (lenK ks)) (eqL h ks a b) none) none

theorem lenK_eq : ∀ ks : List CK, lenK ks = ks.length
  | [] => rfl
  | _ :: ks => by show lenK ks + 1 = _; rw [lenK_eq ks]; rfl

theorem run_sameAddr_same (P : Program) (w : World) (a b : Addr) (h : a.block = b.block) : (sameAddr a b).run P w = .ok (a == b) w := by
  simp [sameAddr, h]

theorem run_viewAt_some (P : Program) (w : World) (r : Nat) (x : TypeId × Nat) (h : w.shape? r = some x) : (viewAt r).run P w = .ok none w := by
  simp [viewAt, h]

theorem run_stringish_false (P : Program) (w : World) (a : Addr) (T : TypeId) (n : Nat) (h : w.shape? a.block = some (T, n)) (hf : ∀ o, w.frozen? ⟨a.block, o, none⟩ = false) (h0 : w.frozen? a = false) : (stringish a).run P w = .ok false w := by
  simp [stringish, h, hf, h0]

theorem run_sameAddr_diff (P : Program) (w : World) (a b : Addr) (h : a.block ≠ b.block) (T U : TypeId) (n m : Nat) (ha : w.shape? a.block = some (T, n)) (hb : w.shape? b.block = some (U, m))
    (fa : ∀ o, w.frozen? ⟨a.block, o, none⟩ = false) (fb : ∀ o, w.frozen? ⟨b.block, o, none⟩ = false) (fa0 : w.frozen? a = false) (fb0 : w.frozen? b = false) : (sameAddr a b).run P w = .ok false w := by
  have h' : (a.block == b.block) = false := by simpa using h
  have h1 := run_stringish_false P w a T n ha fa fa0
  have h2 := run_stringish_false P w b U m hb fb fb0
  simp [sameAddr, h', fa0, fb0, noView, run_viewAt_some P w _ _ ha, run_viewAt_some P w _ _ hb, mayBeOne, h1, h2, hb]

theorem WR.plain {φ : PM} {h : Hp} {w : World} (k : WR φ h w) {i : Pt} (e : Exe.plain h i = true) {p : PB} (hp : φ i = some p) :
    (getP i h.t).isSome ∧ ∃ T n, w.shape? p.blk = some (T, n) ∧ ∀ o s, w.frozen? ⟨p.blk, o, s⟩ = false := by
  obtain ⟨s, t, op, mk, g, hb⟩ := blk_inv (k := fun _ _ _ mk => nB mk) (h := h) (i := i) (d := false) (by show Exe.plain h i ≠ false; rw [e]; simp)
  have e2 : nB mk = true := by rw [← hb]; exact e
  have hmk : mk = false := by cases mk with
    | false => rfl
    | true => cases e2
  obtain ⟨q, hq, c, T, fr, hc, _, _, hm, _⟩ := k.obj _ _ g
  rw [hp] at hq; cases hq
  refine ⟨by rw [g]; rfl, T, c.size, by simp [World.shape?, hc], fun o s => ?_⟩
  simp [World.frozen?, hc, hm hmk]

theorem cellsOf_ptr {P : Program} {t : TypeId} (h : ckOf P t = some .ptr) : ∃ e i, P.underlying t = some (.pointer e) ∧ P.info? e = some i ∧ i.size ≠ 0 := by
  unfold ckOf at h
  split at h <;> try (cases h; done)
  rename_i e hu
  split at h
  · cases h
  · rename_i hne
    cases hi : P.info? e with
    | none => exact absurd (by simp [Program.cellsOf, hi]) hne
    | some i => exact ⟨e, i, hu, hi, fun e2 => hne (by simp [Program.cellsOf, hi, e2])⟩

theorem ck_bool {P : Program} {t : Nat} (ht : ckOf P t = some .bool) : P.underlying t = some .bool := by
  unfold ckOf at ht; split at ht <;> first | assumption | (cases ht; done) | (split at ht <;> cases ht)
theorem ck_int {P : Program} {t : Nat} (ht : ckOf P t = some .int) : ∃ q, P.underlying t = some (.int q) := by
  unfold ckOf at ht; split at ht <;> first | exact ⟨_, by assumption⟩ | (cases ht; done) | (split at ht <;> cases ht)
theorem ck_str {P : Program} {t : Nat} (ht : ckOf P t = some .str) : P.underlying t = some .string := by
  unfold ckOf at ht; split at ht <;> first | assumption | (cases ht; done) | (split at ht <;> cases ht)
theorem symSame_inv {c : CK} {a b : AV} (e : symSame c a b = true) : ∃ s r r', a = .cons s r ∧ b = .cons s r' ∧ symK c s = true := by
  cases a <;> first | (cases e; done) | skip
  rename_i s r
  cases b <;> first | (cases e; done) | skip
  rename_i t r'
  replace e : sel (eqAV0 s t) (symK c s) false = true := e
  cases h1 : eqAV0 s t <;> rw [h1] at e
  · cases e
  obtain rfl : s = t := of_decide_eq_true h1
  exact ⟨s, r, r', rfl, rfl, e⟩
theorem symSame_sound {P : Program} {φ : PM} {w : World} {c : CK} {a b : AV} {u v : Value} (ha : VR φ a u) (hb : VR φ b v) (e : symSame c a b = true) : CellEq P w c u v true := by
  obtain ⟨s, r, r', rfl, rfl, hk⟩ := symSame_inv e
  obtain rfl : u = Env.val s := ha
  obtain rfl : v = Env.val s := hb
  intro d t ht
  cases c with
  | bool =>
    cases s <;> first | (cases hk; done) | skip
    rename_i f cs
    obtain ⟨x, hx⟩ := Env.tyB f cs
    rw [hx, run_equalIn_bool w d t x x (ck_bool ht)]
    cases x <;> rfl
  | int =>
    cases s <;> first | (cases hk; done) | skip
    rename_i k i
    obtain ⟨n, hn⟩ := Env.tyI k i
    obtain ⟨q, hu⟩ := ck_int ht
    rw [hn, run_equalIn_int w d t k q n n hu]
    simp
  | str =>
    cases s <;> first | (cases hk; done) | skip
    rename_i n a
    obtain ⟨x, hx⟩ := Env.tyS n a
    rw [hx, run_equalIn_string w d t _ _ (ck_str ht)]
    simp
  | ptr => cases hk
theorem eqCell_sound {P : Program} {φ : PM} {h : Hp} {w : World} (kw : WR φ h w) {c : CK} {a b : AV} {u v : Value} (ha : VR φ a u) (hb : VR φ b v) {r : Bool} (e : eqCell h c a b = some r) : CellEq P w c u v r := by
  cases hsy : symSame c a b with
  | true =>
    unfold eqCell at e
    rw [hsy] at e
    cases e
    exact symSame_sound ha hb hsy
  | false =>
  replace e : eqCell0 h c a b = some r := by
    unfold eqCell at e
    rw [hsy] at e
    exact e
  intro d t ht
  cases c with
  | bool =>
    cases a <;> try (cases e; done)
    rename_i x
    cases b <;> try (cases e; done)
    rename_i y
    have hu : P.underlying t = some .bool := by
      unfold ckOf at ht; split at ht <;> first | assumption | (cases ht; done) | (split at ht <;> cases ht)
    rw [show u = _ from ha, show v = _ from hb, run_equalIn_bool w d t x y hu]
    cases e
    congr 1
    cases x <;> cases y <;> rfl
  | int =>
    cases a <;> try (cases e; done)
    rename_i k n
    cases b <;> try (cases e; done)
    rename_i k' m
    obtain ⟨h1, h2⟩ := sel_some_inv (show sel (eqK k k') (some (ieq n m)) none = some r from e)
    have := eqK_iff h1
    subst this
    obtain ⟨q, hu⟩ : ∃ q, P.underlying t = some (.int q) := by
      unfold ckOf at ht; split at ht <;> first | exact ⟨_, by assumption⟩ | (cases ht; done) | (split at ht <;> cases ht)
    rw [show u = _ from ha, show v = _ from hb, run_equalIn_int w d t k q n m hu]
    cases h2
    rw [ieq_iff]; rfl
  | str =>
    cases a <;> try (cases e; done)
    rename_i n x
    cases b <;> try (cases e; done)
    rename_i m y
    have hu : P.underlying t = some .string := by
      unfold ckOf at ht; split at ht <;> first | assumption | (cases ht; done) | (split at ht <;> cases ht)
    obtain ⟨rfl, hx⟩ := ha
    obtain ⟨rfl, hy⟩ := hb
    rw [run_equalIn_string w d t _ _ hu]
    have e2 : sel (Nat.beq n m) (Nat.beq x y) false = r := by cases e; rfl
    congr 1
    rw [strB_toList, strB_toList, ← e2]
    cases h1 : Nat.beq n m with
    | true =>
      have := Nat.eq_of_beq_eq_true h1
      subst this
      cases h2 : Nat.beq x y with
      | true => rw [Nat.eq_of_beq_eq_true h2]; simp
      | false =>
        have hne := beq_ne h2
        simp only [sel_true, beq_eq_false_iff_ne]
        exact fun e => hne (bytesOf_inj hx hy e)
    | false =>
      have hne := beq_ne h1
      simp only [sel_false, beq_eq_false_iff_ne]
      exact fun e => hne (by have := congrArg List.length e; simpa using this)
  | ptr =>
    obtain ⟨el, inf, hu, hi, hsz⟩ := cellsOf_ptr ht
    have hs := Exe.run_sizeOf hi w
    have nn : ∀ x : Option Addr, (Op.equalIn (d + 1) t (.pointer none) (.pointer x)).run P w = .ok x.isNone w := fun x => by simp [Op.equalIn, run_underlying hu]
    cases a <;> try (cases e; done)
    · rename_i i o
      obtain ⟨p, hp, rfl⟩ := ha
      cases b <;> try (cases e; done)
      · rename_i j q
        obtain ⟨p2, hp2, rfl⟩ := hb
        have goal : (Op.equalIn (d + 1) t (.pointer (some ⟨p.blk, p.off + o, none⟩)) (.pointer (some ⟨p2.blk, p2.off + q, none⟩))).run P w = (sameAddr ⟨p.blk, p.off + o, none⟩ ⟨p2.blk, p2.off + q, none⟩).run P w := by
          simp [Op.equalIn, run_underlying hu, hs, hsz]
        rw [goal]
        have e2 : ptrEq h i o j q = some r := e
        unfold ptrEq at e2
        cases hij : beqP i j with
        | true =>
          rw [hij] at e2
          have := beqP_iff.1 hij
          subst this
          rw [hp] at hp2; cases hp2
          rw [run_sameAddr_same P w ⟨p.blk, p.off + o, none⟩ ⟨p.blk, p.off + q, none⟩ rfl]
          cases e2
          congr 1
          rw [Bool.eq_iff_iff]
          simp
        | false =>
          rw [hij] at e2
          obtain ⟨q1, e3⟩ := sel_some_inv e2
          obtain ⟨q2, e4⟩ := sel_some_inv e3
          cases e4
          obtain ⟨l1, T1, n1, s1, f1⟩ := kw.plain q1 hp
          obtain ⟨l2, T2, n2, s2, f2⟩ := kw.plain q2 hp2
          have hne : p.blk ≠ p2.blk := fun e => by
            have := kw.inj i j p p2 l1 l2 hp hp2 e
            rw [beqP_iff.2 this] at hij; cases hij
          exact run_sameAddr_diff P w _ _ hne T1 T2 n1 n2 s1 s2 (fun o => f1 o _) (fun o => f2 o _) (f1 _ _) (f2 _ _)
      · rw [show v = _ from hb]
        cases e
        simp [Op.equalIn, run_underlying hu]
    · rw [show u = _ from ha]
      cases b <;> try (cases e; done)
      · obtain ⟨p2, hp2, rfl⟩ := hb
        cases e; exact nn _
      · rw [show v = _ from hb]
        cases e; exact nn _

theorem eqL_sound {P : Program} {φ : PM} {h : Hp} {w : World} (kw : WR φ h w) : ∀ (ks : List CK) {a b : AV} {xs ys : List Value} {r : Bool}, VL φ a xs → VL φ b ys → xs.length = ks.length → ys.length = ks.length →
    eqL h ks a b = some r → AllEq P w ks xs ys r := by
  intro ks
  induction ks with
  | nil =>
    intro a b xs ys r _ _ h1 h2 e
    have e2 : some true = some r := e
    cases e2
    rw [List.eq_nil_of_length_eq_zero h1, List.eq_nil_of_length_eq_zero h2]
    exact rfl
  | cons c ks ih =>
    intro a b xs ys r ha hb h1 h2 e
    cases a <;> try (cases e; done)
    rename_i x a
    cases b <;> try (cases e; done)
    rename_i y b
    obtain ⟨u, us, rfl, hu, hus⟩ := VL_cons_inv ha
    obtain ⟨v, vs, rfl, hv, hvs⟩ := VL_cons_inv hb
    have e2 : andO (eqCell h c x y) (eqL h ks a b) = some r := e
    simp only [List.length_cons, Nat.add_right_cancel_iff] at h1 h2
    refine ⟨h1, h2, ?_⟩
    cases hc : eqCell h c x y with
    | none => rw [hc] at e2; cases e2
    | some t =>
      rw [hc] at e2
      cases t with
      | true => exact .inr ⟨eqCell_sound kw hu hv hc, ih hus hvs h1 h2 e2⟩
      | false => cases e2; exact .inl ⟨eqCell_sound kw hu hv hc, rfl⟩

theorem eqAgg_sound {P : Program} {φ : PM} {h : Hp} {w : World} (kw : WR φ h w) {ks : List CK} {a b : AV} {xs ys : List Value} {r : Bool} (ha : VL φ a xs) (hb : VL φ b ys) (e : eqAgg h ks a b = some r) : AllEq P w ks xs ys r := by
  obtain ⟨h1, e2⟩ := sel_some_inv e
  obtain ⟨h2, e3⟩ := sel_some_inv e2
  have h1 := Nat.eq_of_beq_eq_true h1
  have h2 := Nat.eq_of_beq_eq_true h2
  rw [lenK_eq, ha.len] at h1
  rw [lenK_eq, hb.len] at h2
  exact eqL_sound kw ks ha hb h1 h2 e3
end Go.Exe
