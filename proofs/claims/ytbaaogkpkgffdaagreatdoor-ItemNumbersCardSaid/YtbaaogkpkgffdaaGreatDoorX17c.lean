/- A part of an executor of the model over abstract values, and what it tells of the calls. -/
import Derived.Test.YtbaaogkpkgffdaaGreatDoorX17b
namespace Go.Exe
open Go
set_option linter.unusedSectionVars false
variable [Env]

/-! ### two ends are told of as one: what both tell -/
noncomputable def eqAV (x y : AV) : Bool := decide (x = y)
/-- is it surely a truth value? -/
noncomputable def bitV (x : AV) : Bool := onBool (onNil false true x) (fun _ => true) x
noncomputable def bothB (a b : AV) : Option AV := sel (bitV a) (sel (bitV b) (some .nil) none) none
noncomputable def meetV (x y : Option AV) : Option AV := Option.rec none (fun a => Option.rec none (fun b => sel (eqAV a b) (some a) (bothB a b)) y) x
noncomputable def meetT (x : Tr AV) : Tr AV → Tr AV := Tr.rec (motive := fun _ => Tr AV → Tr AV) (fun _ => .E) (fun _ v _ il ir y => Tr.rec (motive := fun _ => Tr AV) .E (fun l2 v2 r2 _ _ => .N (il l2) (meetV v v2) (ir r2)) y) x
noncomputable def meetC (s : Nat) (t : Tr AV) (op mk : Bool) (s2 : Nat) (t2 : Tr AV) (op2 mk2 : Bool) : Option HO := sel (Nat.beq s s2) (sel (sel op op2 (nB op2)) (sel (sel mk mk2 (nB mk2)) (some (.cells s (meetT t t2) op mk)) none) none) none
noncomputable def eqML (a b : ML) : Bool := ML.rec (motive := fun _ => ML → Bool) (fun b => ML.rec (motive := fun _ => Bool) true (fun _ _ _ _ => false) b) (fun k v _ ih b => ML.rec (motive := fun _ => Bool) false (fun k2 v2 r _ => sel (eqAV k k2) (sel (eqAV v v2) (ih r) false) false) b) a b
/-- a list without one entry -/
noncomputable def rmML (k v : AV) (m : ML) : Option ML := ML.rec (motive := fun _ => Option ML) none (fun k2 v2 r ih => sel (sel (eqAV k k2) (eqAV v v2) false) (some r) (Option.rec (motive := fun _ => Option ML) none (fun r' => some (.c k2 v2 r')) ih)) m
noncomputable def permML (a : ML) : ML → Bool := ML.rec (motive := fun _ => ML → Bool) (fun b => ML.rec (motive := fun _ => Bool) true (fun _ _ _ _ => false) b) (fun k v _ ih b => Option.rec (motive := fun _ => Bool) false ih (rmML k v b)) a
noncomputable def meetM (a b : ML) : Option HO := sel (eqML a b) (some (.map a)) (sel (permML a b) (some (.mapU a)) none)
noncomputable def meetU (a b : ML) : Option HO := sel (permML a b) (some (.mapU a)) none
noncomputable def meetH (a b : HO) : Option HO := HO.rec (motive := fun _ => Option HO) (fun s t op mk => hoC none (meetC s t op mk) b) (fun _ _ _ => none) (fun m => HO.rec (motive := fun _ => Option HO) (fun _ _ _ _ => none) (fun _ _ _ => none) (meetM m) (meetU m) (fun _ _ _ => none) b) (fun m => HO.rec (motive := fun _ => Option HO) (fun _ _ _ _ => none) (fun _ _ _ => none) (meetU m) (meetU m) (fun _ _ _ => none) b) (fun _ _ _ => none) a
noncomputable def meetO (x y : Option HO) : Option HO := Option.rec (motive := fun _ => Option HO) none (fun a => Option.rec (motive := fun _ => Option HO) none (meetH a) y) x
noncomputable def takeP (l : List Pt) : Nat → List Pt := List.rec (motive := fun _ => Nat → List Pt) (fun _ => .nil) (fun i _ ih n => Nat.rec (motive := fun _ => List Pt) .nil (fun m _ => .cons i (ih m)) n) l
noncomputable def appP (l m : List Pt) : List Pt := List.rec (motive := fun _ => List Pt) m (fun i _ ih => .cons i ih) l
noncomputable def lenP (l : List Pt) : Nat := List.rec (motive := fun _ => Nat) 0 (fun _ _ ih => Nat.succ ih) l
noncomputable def rngP : Nat → Pt → Pt → List Pt := Nat.rec (fun _ _ => .nil) (fun _ ih i j => sel (beqP i j) .nil (.cons i (ih (succP i) j)))
noncomputable def idsM (h h1 h2 : Hp) : List Pt := appP (takeP h1.lg (Nat.sub h1.ln h.ln)) (appP (takeP h2.lg (Nat.sub h2.ln h.ln)) (rngP 1000 h.n h1.n))
noncomputable def putsM (t1 t2 : Tr HO) (l : List Pt) : Tr HO → Tr HO := List.rec (motive := fun _ => Tr HO → Tr HO) (fun t => t) (fun i _ ih t => ih (putP (meetO (getP i t1) (getP i t2)) i t)) l
noncomputable def mergeH (h h1 h2 : Hp) : Hp := ⟨h1.n, putsM h1.t h2.t (idsM h h1 h2) h.t, appP (idsM h h1 h2) h.lg, Nat.add (lenP (idsM h h1 h2)) h.ln⟩
noncomputable def meetTL (l m : TL) : TL := TL.rec (motive := fun _ => TL) .nil (fun t v _ ih => Option.rec (motive := fun _ => TL) ih (fun b => .c t (orUnk (meetV (some v) (some b))) ih) (lk t m)) l
noncomputable def mergeF (f1 f2 : Fr) : Fr := ⟨f1.n, f1.sz, meetT f1.loc f2.loc, meetTL f1.tl f2.tl⟩

theorem eqAV_iff {x y : AV} (h : eqAV x y = true) : x = y := of_decide_eq_true h
/-- one value tells less than another -/
def VLe (a b : AV) : Prop := ∀ (φ : PM) (v : Value), VR φ b v → VR φ a v
theorem bitV_le {a : AV} (h : bitV a = true) : VLe .nil a := by
  intro φ v hv
  cases a <;> first | (cases h; done) | skip
  · exact ⟨_, hv⟩
  · exact hv
theorem meetV_some {x y : Option AV} {a : AV} (h : meetV x y = some a) : (∃ b, x = some b ∧ VLe a b) ∧ ∃ b, y = some b ∧ VLe a b := by
  cases x with
  | none => cases h
  | some b => cases y with
    | none => cases h
    | some c =>
      replace h : sel (eqAV b c) (some b) (bothB b c) = some a := h
      cases he : eqAV b c with
      | true =>
        rw [he] at h
        cases h
        exact ⟨⟨_, rfl, fun _ _ h => h⟩, ⟨_, rfl, by rw [eqAV_iff he]; exact fun _ _ h => h⟩⟩
      | false =>
        rw [he] at h
        obtain ⟨h1, h2⟩ := sel_some_inv (show sel (bitV b) (sel (bitV c) (some AV.nil) none) none = some a from h)
        obtain ⟨h3, h4⟩ := sel_some_inv h2
        cases h4
        exact ⟨⟨_, rfl, bitV_le h1⟩, ⟨_, rfl, bitV_le h3⟩⟩
theorem meetT_some : ∀ (p : Pt) {x y : Tr AV} {a : AV}, getP p (meetT x y) = some a → (∃ b, getP p x = some b ∧ VLe a b) ∧ ∃ b, getP p y = some b ∧ VLe a b
  | p, .E, y, a, h => by
    rw [show meetT .E y = .E from rfl, getP_E] at h; cases h
  | p, .N _ _ _, .E, a, h => by
    rw [show meetT (.N _ _ _) .E = .E from rfl, getP_E] at h; cases h
  | .o, .N l v r, .N l2 v2 r2, a, h => meetV_some (show meetV v v2 = some a from h)
  | .l p, .N l v r, .N l2 v2 r2, a, h => meetT_some p (show getP p (meetT l l2) = some a from h)
  | .r p, .N l v r, .N l2 v2 r2, a, h => meetT_some p (show getP p (meetT r r2) = some a from h)
theorem selEq {a b : Bool} (h : sel a b (nB b) = true) : a = b := by cases a <;> cases b <;> first | rfl | (cases h; done)

/-- one tells less than another -/
def HLe (o o' : HO) : Prop := (∀ (φ : PM) (p : PB) (w : World), OR φ p w o' → OR φ p w o) ∧ (wrO o = true → wrO o' = true)
theorem OR.meet {φ : PM} {p : PB} {w : World} {s : Nat} {t t' : Tr AV} {op mk : Bool} (hs : ∀ j a, getP (pt j) t' = some a → ∃ b, getP (pt j) t = some b ∧ VLe a b) (h : OR φ p w (.cells s t op mk)) : OR φ p w (.cells s t' op mk) := by
  obtain ⟨c, T, fr, h1, h2, h3, h4, h5, h6⟩ := h
  exact ⟨c, T, fr, h1, h2, h3, h4, h5, fun j a hj hg => by
    obtain ⟨b, e1, e2⟩ := hs j a hg
    obtain ⟨v, e3, e4⟩ := h6 j b hj e1
    exact ⟨v, e3, e2 _ _ e4⟩⟩
theorem eqML_iff : ∀ {a b : ML}, eqML a b = true → a = b
  | .nil, .nil, _ => rfl
  | .nil, .c _ _ _, h => by cases h
  | .c _ _ _, .nil, h => by cases h
  | .c k v r, .c k2 v2 r2, h => by
    replace h : sel (eqAV k k2) (sel (eqAV v v2) (eqML r r2) false) false = true := h
    cases h1 : eqAV k k2 <;> rw [h1] at h
    · cases h
    replace h : sel (eqAV v v2) (eqML r r2) false = true := h
    cases h2 : eqAV v v2 <;> rw [h2] at h
    · cases h
    rw [eqAV_iff h1, eqAV_iff h2, eqML_iff h]
theorem rmML_perm {k v : AV} : ∀ {m r : ML}, rmML k v m = some r → (mlL m).Perm ((k, v) :: mlL r)
  | .nil, r, h => by cases h
  | .c k2 v2 m, r, h => by
    replace h : sel (sel (eqAV k k2) (eqAV v v2) false) (some m) (Option.rec (motive := fun _ => Option ML) none (fun r' => some (.c k2 v2 r')) (rmML k v m)) = some r := h
    cases h1 : sel (eqAV k k2) (eqAV v v2) false with
    | true =>
      rw [h1] at h
      cases h
      cases h2 : eqAV k k2 with
      | false => rw [h2] at h1; cases h1
      | true =>
        rw [h2] at h1
        rw [eqAV_iff h2, eqAV_iff (show eqAV v v2 = true from h1)]
        exact List.Perm.refl _
    | false =>
      rw [h1] at h
      replace h : (Option.rec (motive := fun _ => Option ML) none (fun r' => some (.c k2 v2 r')) (rmML k v m)) = some r := h
      cases h2 : rmML k v m with
      | none => rw [h2] at h; cases h
      | some r' =>
        rw [h2] at h
        cases h
        exact ((rmML_perm h2).cons (k2, v2)).trans (List.Perm.swap _ _ _)
theorem permML_perm : ∀ {a b : ML}, permML a b = true → (mlL a).Perm (mlL b)
  | .nil, .nil, _ => List.Perm.refl _
  | .nil, .c _ _ _, h => by cases h
  | .c k v a, b, h => by
    replace h : (Option.rec (motive := fun _ => Bool) false (permML a) (rmML k v b)) = true := h
    cases h2 : rmML k v b with
    | none => rw [h2] at h; cases h
    | some r =>
      rw [h2] at h
      exact ((permML_perm (show permML a r = true from h)).cons (k, v)).trans (rmML_perm h2).symm
theorem meetO_some {x y : Option HO} {o : HO} (h : meetO x y = some o) : (∃ a, x = some a ∧ HLe o a) ∧ ∃ b, y = some b ∧ HLe o b := by
  cases x with
  | none => cases h
  | some a => cases y with
    | none => cases h
    | some b =>
      replace h : meetH a b = some o := h
      have toU : ∀ m, HLe (.mapU m) (.map m) := fun m => ⟨fun φ p w ⟨l, c, h1, h2, h3⟩ => ⟨l, c, m, h1, List.Perm.refl _, h2, h3⟩, id⟩
      have toU2 : ∀ m m2, permML m m2 = true → HLe (.mapU m) (.map m2) := fun m m2 hp => ⟨fun φ p w ⟨l, c, h1, h2, h3⟩ => ⟨l, c, m2, h1, (permML_perm hp).symm, h2, h3⟩, id⟩
      have toU3 : ∀ m m2, permML m m2 = true → HLe (.mapU m) (.mapU m2) := fun m m2 hp => ⟨fun φ p w ⟨l, c, es, h1, hq, h2, h3⟩ => ⟨l, c, es, h1, hq.trans (permML_perm hp).symm, h2, h3⟩, id⟩
      have idU : ∀ o, HLe o o := fun o => ⟨fun _ _ _ h => h, id⟩
      cases a <;> first | (cases h; done) | skip
      rotate_left
      · rename_i m
        cases b <;> first | (cases h; done) | skip
        · rename_i m2
          replace h : sel (eqML m m2) (some (.map m)) (sel (permML m m2) (some (.mapU m)) none) = some o := h
          cases he : eqML m m2 with
          | true =>
            rw [he] at h; cases h
            rw [eqML_iff he]
            exact ⟨⟨_, rfl, idU _⟩, ⟨_, rfl, idU _⟩⟩
          | false =>
            rw [he] at h
            obtain ⟨h1, h⟩ := sel_some_inv (show sel (permML m m2) (some (HO.mapU m)) none = some o from h)
            cases h
            exact ⟨⟨_, rfl, toU _⟩, ⟨_, rfl, toU2 _ _ h1⟩⟩
        · rename_i m2
          obtain ⟨h1, h⟩ := sel_some_inv (show sel (permML m m2) (some (HO.mapU m)) none = some o from h)
          cases h
          exact ⟨⟨_, rfl, toU _⟩, ⟨_, rfl, toU3 _ _ h1⟩⟩
      · rename_i m
        cases b <;> first | (cases h; done) | skip
        · rename_i m2
          obtain ⟨h1, h⟩ := sel_some_inv (show sel (permML m m2) (some (HO.mapU m)) none = some o from h)
          cases h
          exact ⟨⟨_, rfl, idU _⟩, ⟨_, rfl, toU2 _ _ h1⟩⟩
        · rename_i m2
          obtain ⟨h1, h⟩ := sel_some_inv (show sel (permML m m2) (some (HO.mapU m)) none = some o from h)
          cases h
          exact ⟨⟨_, rfl, idU _⟩, ⟨_, rfl, toU3 _ _ h1⟩⟩
      cases b <;> first | (cases h; done) | skip
      rename_i s t op mk s2 t2 op2 mk2
      replace h : meetC s t op mk s2 t2 op2 mk2 = some o := h
      obtain ⟨h1, h⟩ := sel_some_inv h
      obtain ⟨h2, h⟩ := sel_some_inv h
      obtain ⟨h3, h⟩ := sel_some_inv h
      cases h
      obtain rfl := Nat.eq_of_beq_eq_true h1
      obtain rfl := selEq h2
      obtain rfl := selEq h3
      exact ⟨⟨_, rfl, fun φ p w h => h.meet fun j a e => (meetT_some (pt j) e).1, id⟩, ⟨_, rfl, fun φ p w h => h.meet fun j a e => (meetT_some (pt j) e).2, id⟩⟩

theorem appP_eq (l m : List Pt) : appP l m = l ++ m := by
  induction l with
  | nil => rfl
  | cons i l ih => show i :: appP l m = _; rw [ih]; rfl
theorem lenP_eq (l : List Pt) : lenP l = l.length := by
  induction l with
  | nil => rfl
  | cons i l ih => show Nat.succ (lenP l) = _; rw [ih]; rfl
theorem takeP_eq (l : List Pt) : ∀ n, takeP l n = l.take n := by
  induction l with
  | nil => intro n; cases n <;> rfl
  | cons i l ih =>
    intro n
    cases n with
    | zero => rfl
    | succ n => show i :: takeP l n = _; rw [ih]; rfl
theorem putsM_get (t1 t2 : Tr HO) (l : List Pt) : ∀ (t : Tr HO) (i : Pt), (i ∈ l → getP i (putsM t1 t2 l t) = meetO (getP i t1) (getP i t2)) ∧ (i ∉ l → getP i (putsM t1 t2 l t) = getP i t) := by
  induction l with
  | nil => intro t i; exact ⟨fun h => (by cases h), fun _ => rfl⟩
  | cons j l ih =>
    intro t i
    have h := ih (putP (meetO (getP j t1) (getP j t2)) j t) i
    refine ⟨fun hi => ?_, fun hi => ?_⟩
    · show getP i (putsM t1 t2 l _) = _
      by_cases hm : i ∈ l
      · exact h.1 hm
      · obtain rfl : i = j := by rcases List.mem_cons.1 hi with e | e; exact e; exact absurd e hm
        rw [h.2 hm, getP_putP_same]
    · show getP i (putsM t1 t2 l _) = _
      rw [h.2 (fun e => hi (List.mem_cons_of_mem _ e)), getP_putP_ne _ _ _ _ (fun e => hi (by rw [e]; exact List.mem_cons_self ..))]

section
variable {φ φ' : PM} {h h' m : Hp} {w w' : World}
/-- less is told of the same world -/
theorem Stp.less (s : Stp φ h w φ' h' w') (hn : m.n = h'.n) (hsub : ∀ i o, getP i m.t = some o → ∃ o', getP i h'.t = some o' ∧ HLe o o') (hlg : Lg h m) : Stp φ h w φ' m w' where
  ext := s.ext
  wr := by
    have sub : ∀ i, (getP i m.t).isSome → (getP i h'.t).isSome := fun i hi => by
      obtain ⟨o, ho⟩ := Option.isSome_iff_exists.1 hi
      obtain ⟨o', ho', _⟩ := hsub i o ho
      rw [ho']; rfl
    refine ⟨s.wr.gl, fun i o hi => ?_, fun i j p q hi hj => s.wr.inj i j p q (sub i hi) (sub j hj), fun i hi => ?_⟩
    · obtain ⟨o', ho', hle⟩ := hsub i o hi
      obtain ⟨p, hp, hor⟩ := s.wr.obj i o' ho'
      exact ⟨p, hp, hle.1 _ _ _ hor⟩
    · obtain ⟨h1, h2⟩ := s.wr.fresh i (by rw [← hn]; exact hi)
      refine ⟨?_, h2⟩
      cases hm : getP i m.t with
      | none => rfl
      | some o => obtain ⟨o', ho', _⟩ := hsub i o hm; rw [h1] at ho'; cases ho'
  fr := s.fr
  orig := fun i p hi hp => by
    obtain ⟨o, ho⟩ := Option.isSome_iff_exists.1 hi
    obtain ⟨o', ho', _⟩ := hsub i o ho
    exact s.orig i p (by rw [ho']; rfl) hp
  origW := fun i p ⟨o, ho, hw⟩ hp => by
    obtain ⟨o', ho', hle⟩ := hsub i o ho
    exact s.origW i p ⟨o', ho', hle.2 hw⟩ hp
  next := by rw [hn]; exact s.next
  lg := hlg

theorem merge_lg (h h1 h2 : Hp) : Lg h (mergeH h h1 h2) :=
  ⟨idsM h h1 h2, by simp [mergeH, appP_eq], by show Nat.add (lenP _) _ = _; rw [lenP_eq]; rfl, fun i _ hn => (putsM_get h1.t h2.t _ h.t i).2 hn⟩
theorem merge_sub {k h1 h2 : Hp} (kw : WR φ h w) (s : Stp φ h w φ' k w') (hk : ∀ i, i ∈ takeP k.lg (Nat.sub k.ln h.ln) → i ∈ idsM h h1 h2) (hm : ∀ i o, meetO (getP i h1.t) (getP i h2.t) = some o → ∃ o', getP i k.t = some o' ∧ HLe o o') :
    ∀ i o, getP i (mergeH h h1 h2).t = some o → ∃ o', getP i k.t = some o' ∧ HLe o o' := by
  intro i o ho
  by_cases hi : i ∈ idsM h h1 h2
  · rw [show (mergeH h h1 h2).t = putsM h1.t h2.t (idsM h h1 h2) h.t from rfl, (putsM_get h1.t h2.t _ h.t i).1 hi] at ho
    exact hm i o ho
  · rw [show (mergeH h h1 h2).t = putsM h1.t h2.t (idsM h h1 h2) h.t from rfl, (putsM_get h1.t h2.t _ h.t i).2 hi] at ho
    have hlt : toN i < toN h.n := by
      rcases Nat.lt_or_ge (toN i) (toN h.n) with h1 | h1
      · exact h1
      · rw [(kw.fresh i h1).1] at ho; cases ho
    obtain ⟨new, e1, e2, e3⟩ := s.lg
    have hnew : takeP k.lg (Nat.sub k.ln h.ln) = new := by
      rw [takeP_eq, e1, e2, show Nat.sub (new.length + h.ln) h.ln = new.length from Nat.add_sub_cancel .., List.take_left']
      rfl
    rw [hnew] at hk
    exact ⟨o, by rw [e3 i hlt (fun hmem => hi (hk i hmem))]; exact ho, fun _ _ _ h => h, id⟩
theorem merge_left {h1 h2 : Hp} (kw : WR φ h w) (s : Stp φ h w φ' h1 w') : Stp φ h w φ' (mergeH h h1 h2) w' :=
  s.less rfl (merge_sub kw s (fun i hi => by rw [idsM, appP_eq]; exact List.mem_append.2 (.inl hi)) fun _ _ e => (meetO_some e).1) (merge_lg ..)
theorem merge_right {h1 h2 : Hp} (hn : beqP h1.n h2.n = true) (kw : WR φ h w) (s : Stp φ h w φ' h2 w') : Stp φ h w φ' (mergeH h h1 h2) w' :=
  s.less (beqP_iff.1 hn) (merge_sub kw s (fun i hi => by rw [idsM, appP_eq, appP_eq]; exact List.mem_append.2 (.inr (List.mem_append.2 (.inl hi)))) fun _ _ e => (meetO_some e).2) (merge_lg ..)

theorem meetTL_get {l m : TL} {t : Nat} {x : AV} : lk t (meetTL l m) = some x → ∃ a b, lk t l = some a ∧ lk t m = some b ∧ VLe x a ∧ VLe x b := by
  induction l with
  | nil => intro h; cases h
  | c u v r ih =>
    intro h
    replace h : lk t (Option.rec (motive := fun _ => TL) (meetTL r m) (fun b => .c u (orUnk (meetV (some v) (some b))) (meetTL r m)) (lk u m)) = some x := h
    show ∃ a b, sel (Nat.beq u t) (some v) (lk t r) = some a ∧ lk t m = some b ∧ VLe x a ∧ VLe x b
    cases hm : lk u m with
    | none =>
      rw [hm] at h
      obtain ⟨a, b, h1, h2, h3⟩ := ih h
      cases hb : Nat.beq u t with
      | false => exact ⟨a, b, h1, h2, h3⟩
      | true =>
        obtain rfl := Nat.eq_of_beq_eq_true hb
        rw [hm] at h2; cases h2
    | some b =>
      rw [hm] at h
      replace h : sel (Nat.beq u t) (some (orUnk (meetV (some v) (some b)))) (lk t (meetTL r m)) = some x := h
      cases hb : Nat.beq u t with
      | false => rw [hb] at h; exact ih h
      | true =>
        rw [hb] at h
        obtain rfl := Nat.eq_of_beq_eq_true hb
        refine ⟨v, b, rfl, hm, ?_⟩
        replace h : some (orUnk (meetV (some v) (some b))) = some x := h
        injection h with h
        cases hmv : meetV (some v) (some b) with
        | none =>
          rw [hmv] at h
          obtain rfl : AV.unk = x := h
          exact ⟨fun _ _ _ => VR.unk _ _, fun _ _ _ => VR.unk _ _⟩
        | some y =>
          rw [hmv] at h
          obtain rfl : y = x := h
          obtain ⟨⟨a', e1, e2⟩, b', e3, e4⟩ := meetV_some hmv
          cases e1; cases e3
          exact ⟨e2, e4⟩
theorem mergeF_get {f1 f2 : Fr} (hn : f1.n = f2.n) {t : Nat} {x : AV} (e : getF t (mergeF f1 f2) = some x) : ∃ a b, getF t f1 = some a ∧ getF t f2 = some b ∧ VLe x a ∧ VLe x b := by
  rw [getF_eq] at e
  unfold mergeF at e
  rw [getF_eq, getF_eq]
  rw [← hn]
  cases hb : Nat.blt t f1.n with
  | false => rw [hb] at e; exact meetTL_get e
  | true =>
    rw [hb] at e
    obtain ⟨⟨a, h1, h2⟩, b, h3, h4⟩ := meetT_some _ e
    exact ⟨a, b, h1, h3, h2, h4⟩
theorem mergeF_left {f1 f2 : Fr} (hn : Nat.beq f1.n f2.n = true) {a : Act} (k : FR φ f1 a) : FR φ (mergeF f1 f2) a := by
  have hn := Nat.eq_of_beq_eq_true hn
  refine ⟨k.gl, k.sz, fun t x e => ?_, fun t x e => ?_⟩ <;> obtain ⟨a, b, h1, h2, h3, h4⟩ := mergeF_get hn e
  · exact k.lt t a h1
  · exact h3 _ _ (k.get t a h1)
theorem mergeF_right {f1 f2 : Fr} {a : Act} (hn : Nat.beq f1.n f2.n = true) (hs : Nat.beq f1.sz f2.sz = true) (k : FR φ f2 a) : FR φ (mergeF f1 f2) a := by
  have hn := Nat.eq_of_beq_eq_true hn
  have hs := Nat.eq_of_beq_eq_true hs
  refine ⟨k.gl, by show f1.sz ≤ _; rw [hs]; exact k.sz, fun t x e => ?_, fun t x e => ?_⟩ <;> obtain ⟨a, b, h1, h2, h3, h4⟩ := mergeF_get hn e
  · show t < f1.sz; rw [hs]; exact k.lt t b h2
  · exact h4 _ _ (k.get t b h2)
end
end Go.Exe
