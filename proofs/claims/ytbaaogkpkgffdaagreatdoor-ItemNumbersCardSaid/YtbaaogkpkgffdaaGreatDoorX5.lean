/- A part of an executor of the model over abstract values, and what it tells of the calls. -/
import Derived.Test.YtbaaogkpkgffdaaGreatDoorX4
namespace Go.Exe
open Go
set_option linter.unusedSectionVars false
variable [Env]

/-! ### cases -/
inductive VBool where | no | yes (x0 : Bool)
noncomputable def vwBool (v : AV) : VBool := AV.rec (motive := fun _ => VBool) (fun x0 => .yes x0) (fun _ _ => .no) (fun _ _ => .no) (fun _ _ => .no) .no (fun _ _ _ _ _ _ => .no) .no (fun _ => .no) .no (fun _ _ _ => .no) .no (fun _ _ => .no) (fun _ _ => .no) .no .no (fun _ _ _ _ => .no) .no v
noncomputable def onBool {β : Type} (d : β) (k : Bool → β) (v : AV) : β := VBool.rec (motive := fun _ => β) d k (vwBool v)
theorem onBool_elim {β : Type} {C : β → Prop} {d : β} {k : Bool → β} {v : AV} (hd : C d) (hk : ∀ x0, v = (.bool x0) → C (k x0)) : C (onBool d k v) := by
  cases v <;> first | exact hd | exact hk _ rfl
inductive VInt where | no | yes (x0 : IntKind) (x1 : Int)
noncomputable def vwInt (v : AV) : VInt := AV.rec (motive := fun _ => VInt) (fun _ => .no) (fun x0 x1 => .yes x0 x1) (fun _ _ => .no) (fun _ _ => .no) .no (fun _ _ _ _ _ _ => .no) .no (fun _ => .no) .no (fun _ _ _ => .no) .no (fun _ _ => .no) (fun _ _ => .no) .no .no (fun _ _ _ _ => .no) .no v
noncomputable def onInt {β : Type} (d : β) (k : IntKind → Int → β) (v : AV) : β := VInt.rec (motive := fun _ => β) d k (vwInt v)
theorem onInt_elim {β : Type} {C : β → Prop} {d : β} {k : IntKind → Int → β} {v : AV} (hd : C d) (hk : ∀ x0 x1, v = (.int x0 x1) → C (k x0 x1)) : C (onInt d k v) := by
  cases v <;> first | exact hd | exact hk _ _ rfl
inductive VStr where | no | yes (x0 : Nat) (x1 : Nat)
noncomputable def vwStr (v : AV) : VStr := AV.rec (motive := fun _ => VStr) (fun _ => .no) (fun _ _ => .no) (fun x0 x1 => .yes x0 x1) (fun _ _ => .no) .no (fun _ _ _ _ _ _ => .no) .no (fun _ => .no) .no (fun _ _ _ => .no) .no (fun _ _ => .no) (fun _ _ => .no) .no .no (fun _ _ _ _ => .no) .no v
noncomputable def onStr {β : Type} (d : β) (k : Nat → Nat → β) (v : AV) : β := VStr.rec (motive := fun _ => β) d k (vwStr v)
theorem onStr_elim {β : Type} {C : β → Prop} {d : β} {k : Nat → Nat → β} {v : AV} (hd : C d) (hk : ∀ x0 x1, v = (.str x0 x1) → C (k x0 x1)) : C (onStr d k v) := by
  cases v <;> first | exact hd | exact hk _ _ rfl
inductive VPtr where | no | yes (x0 : Pt) (x1 : Nat)
noncomputable def vwPtr (v : AV) : VPtr := AV.rec (motive := fun _ => VPtr) (fun _ => .no) (fun _ _ => .no) (fun _ _ => .no) (fun x0 x1 => .yes x0 x1) .no (fun _ _ _ _ _ _ => .no) .no (fun _ => .no) .no (fun _ _ _ => .no) .no (fun _ _ => .no) (fun _ _ => .no) .no .no (fun _ _ _ _ => .no) .no v
noncomputable def onPtr {β : Type} (d : β) (k : Pt → Nat → β) (v : AV) : β := VPtr.rec (motive := fun _ => β) d k (vwPtr v)
theorem onPtr_elim {β : Type} {C : β → Prop} {d : β} {k : Pt → Nat → β} {v : AV} (hd : C d) (hk : ∀ x0 x1, v = (.ptr x0 x1) → C (k x0 x1)) : C (onPtr d k v) := by
  cases v <;> first | exact hd | exact hk _ _ rfl
noncomputable def isNilp (v : AV) : Bool := AV.rec (motive := fun _ => Bool) (fun _ => false) (fun _ _ => false) (fun _ _ => false) (fun _ _ => false) true (fun _ _ _ _ _ _ => false) false (fun _ => false) false (fun _ _ _ => false) false (fun _ _ => false) (fun _ _ => false) false false (fun _ _ _ _ => false) false v
noncomputable def onNilp {β : Type} (d : β) (k : β) (v : AV) : β := Bool.rec (motive := fun _ => β) d k (isNilp v)
theorem onNilp_elim {β : Type} {C : β → Prop} {d : β} {k : β} {v : AV} (hd : C d) (hk : v = .nilp → C (k)) : C (onNilp d k v) := by
  cases v <;> first | exact hd | exact hk rfl
inductive VSl where | no | yes (x0 : Pt) (x1 : Nat) (x2 : Nat) (x3 : Nat) (x4 : Nat) (x5 : Bool)
noncomputable def vwSl (v : AV) : VSl := AV.rec (motive := fun _ => VSl) (fun _ => .no) (fun _ _ => .no) (fun _ _ => .no) (fun _ _ => .no) .no (fun x0 x1 x2 x3 x4 x5 => .yes x0 x1 x2 x3 x4 x5) .no (fun _ => .no) .no (fun _ _ _ => .no) .no (fun _ _ => .no) (fun _ _ => .no) .no .no (fun _ _ _ _ => .no) .no v
noncomputable def onSl {β : Type} (d : β) (k : Pt → Nat → Nat → Nat → Nat → Bool → β) (v : AV) : β := VSl.rec (motive := fun _ => β) d k (vwSl v)
theorem onSl_elim {β : Type} {C : β → Prop} {d : β} {k : Pt → Nat → Nat → Nat → Nat → Bool → β} {v : AV} (hd : C d) (hk : ∀ x0 x1 x2 x3 x4 x5, v = (.sl x0 x1 x2 x3 x4 x5) → C (k x0 x1 x2 x3 x4 x5)) : C (onSl d k v) := by
  cases v <;> first | exact hd | exact hk _ _ _ _ _ _ rfl
noncomputable def isNils (v : AV) : Bool := AV.rec (motive := fun _ => Bool) (fun _ => false) (fun _ _ => false) (fun _ _ => false) (fun _ _ => false) false (fun _ _ _ _ _ _ => false) true (fun _ => false) false (fun _ _ _ => false) false (fun _ _ => false) (fun _ _ => false) false false (fun _ _ _ _ => false) false v
noncomputable def onNils {β : Type} (d : β) (k : β) (v : AV) : β := Bool.rec (motive := fun _ => β) d k (isNils v)
theorem onNils_elim {β : Type} {C : β → Prop} {d : β} {k : β} {v : AV} (hd : C d) (hk : v = .nils → C (k)) : C (onNils d k v) := by
  cases v <;> first | exact hd | exact hk rfl
inductive VMap where | no | yes (x0 : Pt)
noncomputable def vwMap (v : AV) : VMap := AV.rec (motive := fun _ => VMap) (fun _ => .no) (fun _ _ => .no) (fun _ _ => .no) (fun _ _ => .no) .no (fun _ _ _ _ _ _ => .no) .no (fun x0 => .yes x0) .no (fun _ _ _ => .no) .no (fun _ _ => .no) (fun _ _ => .no) .no .no (fun _ _ _ _ => .no) .no v
noncomputable def onMap {β : Type} (d : β) (k : Pt → β) (v : AV) : β := VMap.rec (motive := fun _ => β) d k (vwMap v)
theorem onMap_elim {β : Type} {C : β → Prop} {d : β} {k : Pt → β} {v : AV} (hd : C d) (hk : ∀ x0, v = (.map x0) → C (k x0)) : C (onMap d k v) := by
  cases v <;> first | exact hd | exact hk _ rfl
noncomputable def isNilm (v : AV) : Bool := AV.rec (motive := fun _ => Bool) (fun _ => false) (fun _ _ => false) (fun _ _ => false) (fun _ _ => false) false (fun _ _ _ _ _ _ => false) false (fun _ => false) true (fun _ _ _ => false) false (fun _ _ => false) (fun _ _ => false) false false (fun _ _ _ _ => false) false v
noncomputable def onNilm {β : Type} (d : β) (k : β) (v : AV) : β := Bool.rec (motive := fun _ => β) d k (isNilm v)
theorem onNilm_elim {β : Type} {C : β → Prop} {d : β} {k : β} {v : AV} (hd : C d) (hk : v = .nilm → C (k)) : C (onNilm d k v) := by
  cases v <;> first | exact hd | exact hk rfl
inductive VFn where | no | yes (x0 : Nat) (x1 : AV)
noncomputable def vwFn (v : AV) : VFn := AV.rec (motive := fun _ => VFn) (fun _ => .no) (fun _ _ => .no) (fun _ _ => .no) (fun _ _ => .no) .no (fun _ _ _ _ _ _ => .no) .no (fun _ => .no) .no (fun x0 x1 _ => .yes x0 x1) .no (fun _ _ => .no) (fun _ _ => .no) .no .no (fun _ _ _ _ => .no) .no v
noncomputable def onFn {β : Type} (d : β) (k : Nat → AV → β) (v : AV) : β := VFn.rec (motive := fun _ => β) d k (vwFn v)
theorem onFn_elim {β : Type} {C : β → Prop} {d : β} {k : Nat → AV → β} {v : AV} (hd : C d) (hk : ∀ x0 x1, v = (.fn x0 x1) → C (k x0 x1)) : C (onFn d k v) := by
  cases v <;> first | exact hd | exact hk _ _ rfl
noncomputable def isNilf (v : AV) : Bool := AV.rec (motive := fun _ => Bool) (fun _ => false) (fun _ _ => false) (fun _ _ => false) (fun _ _ => false) false (fun _ _ _ _ _ _ => false) false (fun _ => false) false (fun _ _ _ => false) true (fun _ _ => false) (fun _ _ => false) false false (fun _ _ _ _ => false) false v
noncomputable def onNilf {β : Type} (d : β) (k : β) (v : AV) : β := Bool.rec (motive := fun _ => β) d k (isNilf v)
theorem onNilf_elim {β : Type} {C : β → Prop} {d : β} {k : β} {v : AV} (hd : C d) (hk : v = .nilf → C (k)) : C (onNilf d k v) := by
  cases v <;> first | exact hd | exact hk rfl
inductive VAgg where | no | yes (x0 : AV)
noncomputable def vwAgg (v : AV) : VAgg := AV.rec (motive := fun _ => VAgg) (fun _ => .no) (fun _ _ => .no) (fun _ _ => .no) (fun _ _ => .no) .no (fun _ _ _ _ _ _ => .no) .no (fun _ => .no) .no (fun _ _ _ => .no) .no (fun x0 _ => .yes x0) (fun _ _ => .no) .no .no (fun _ _ _ _ => .no) .no v
noncomputable def onAgg {β : Type} (d : β) (k : AV → β) (v : AV) : β := VAgg.rec (motive := fun _ => β) d k (vwAgg v)
theorem onAgg_elim {β : Type} {C : β → Prop} {d : β} {k : AV → β} {v : AV} (hd : C d) (hk : ∀ x0, v = (.agg x0) → C (k x0)) : C (onAgg d k v) := by
  cases v <;> first | exact hd | exact hk _ rfl
noncomputable def vwTup (v : AV) : VAgg := AV.rec (motive := fun _ => VAgg) (fun _ => .no) (fun _ _ => .no) (fun _ _ => .no) (fun _ _ => .no) .no (fun _ _ _ _ _ _ => .no) .no (fun _ => .no) .no (fun _ _ _ => .no) .no (fun _ _ => .no) (fun x0 _ => .yes x0) .no .no (fun _ _ _ _ => .no) .no v
noncomputable def onTup {β : Type} (d : β) (k : AV → β) (v : AV) : β := VAgg.rec (motive := fun _ => β) d k (vwTup v)
theorem onTup_elim {β : Type} {C : β → Prop} {d : β} {k : AV → β} {v : AV} (hd : C d) (hk : ∀ x0, v = (.tup x0) → C (k x0)) : C (onTup d k v) := by
  cases v <;> first | exact hd | exact hk _ rfl
noncomputable def isNil (v : AV) : Bool := AV.rec (motive := fun _ => Bool) (fun _ => false) (fun _ _ => false) (fun _ _ => false) (fun _ _ => false) false (fun _ _ _ _ _ _ => false) false (fun _ => false) false (fun _ _ _ => false) false (fun _ _ => false) (fun _ _ => false) false true (fun _ _ _ _ => false) false v
noncomputable def onNil {β : Type} (d : β) (k : β) (v : AV) : β := Bool.rec (motive := fun _ => β) d k (isNil v)
theorem onNil_elim {β : Type} {C : β → Prop} {d : β} {k : β} {v : AV} (hd : C d) (hk : v = .nil → C (k)) : C (onNil d k v) := by
  cases v <;> first | exact hd | exact hk rfl
inductive VCons where | no | yes (x0 : AV) (x1 : AV)
noncomputable def vwCons (v : AV) : VCons := AV.rec (motive := fun _ => VCons) (fun _ => .no) (fun _ _ => .no) (fun _ _ => .no) (fun _ _ => .no) .no (fun _ _ _ _ _ _ => .no) .no (fun _ => .no) .no (fun _ _ _ => .no) .no (fun _ _ => .no) (fun _ _ => .no) .no .no (fun x0 x1 _ _ => .yes x0 x1) .no v
noncomputable def onCons {β : Type} (d : β) (k : AV → AV → β) (v : AV) : β := VCons.rec (motive := fun _ => β) d k (vwCons v)
theorem onCons_elim {β : Type} {C : β → Prop} {d : β} {k : AV → AV → β} {v : AV} (hd : C d) (hk : ∀ x0 x1, v = (.cons x0 x1) → C (k x0 x1)) : C (onCons d k v) := by
  cases v <;> first | exact hd | exact hk _ _ rfl

noncomputable def isEsl (v : AV) : Bool := AV.rec (motive := fun _ => Bool) (fun _ => false) (fun _ _ => false) (fun _ _ => false) (fun _ _ => false) false (fun _ _ _ _ _ _ => false) false (fun _ => false) false (fun _ _ _ => false) false (fun _ _ => false) (fun _ _ => false) false false (fun _ _ _ _ => false) true v
noncomputable def onEsl {β : Type} (d : β) (k : β) (v : AV) : β := Bool.rec (motive := fun _ => β) d k (isEsl v)
theorem onEsl_elim {β : Type} {C : β → Prop} {d : β} {k : β} {v : AV} (hd : C d) (hk : v = .esl → C (k)) : C (onEsl d k v) := by
  cases v <;> first | exact hd | exact hk rfl

inductive R1 where
  | fail (why : Nat)
  | v (a : AV) (h : Hp)
  | call (f : Nat) (args : AV)
  | or (a b : R1)

noncomputable def ob {α : Type} (o : Option α) (k : α → R1) : R1 := Option.rec (.fail 1) k o
theorem ob_elim {α : Type} {C : R1 → Prop} {o : Option α} {k : α → R1} (hd : C (.fail 1)) (hk : ∀ x, o = some x → C (k x)) : C (ob o k) := by
  cases o with
  | none => exact hd
  | some x => exact hk x rfl
theorem sel_elim {α : Type} {C : α → Prop} {b : Bool} {x y : α} (hx : b = true → C x) (hy : b = false → C y) : C (sel b x y) := by
  cases b with
  | true => exact hx rfl
  | false => exact hy rfl
noncomputable def ret (h : Hp) (a : AV) : R1 := .v a h
noncomputable def unit (h : Hp) : R1 := .v .unk h

/-! ### types -/
structure FI where
  off : Nat
  ty : Nat
  size : Nat
  agg : Bool

inductive TI where
  | int (k : IntKind) | bool | str | ptr (e : Nat) | slice (e : Nat) | arr (n e : Nat) | map (k e : Nat) | struct (fs : List FI) | func | other

/-- kinds of cells, for equality -/
inductive CK where | bool | int | str | ptr

structure TE where
  ti : TI
  size : Nat
  bytes : Nat
  isAgg : Bool
  zero : AV
  zv : AV
  cmp : List CK

/-- what is known of operations on symbols -/
inductive FK where
  | bin (op : BinOp) (t : Nat) | len (t : Nat) | index (t : Nat) | slice (t : Nat) | min | max | conv (s d : Nat) | none
structure TT where
  t : Tr TE
  F : FK → AV → Option AV

/-! ### frames -/
inductive TL where | nil | c (t : Nat) (v : AV) (r : TL)
structure Fr where
  n : Nat
  sz : Nat
  loc : Tr AV
  tl : TL

noncomputable def lk (t : Nat) (l : TL) : Option AV := TL.rec (motive := fun _ => Option AV) none (fun u v _ ih => sel (Nat.beq u t) (some v) ih) l
noncomputable def getF (t : Nat) (fr : Fr) : Option AV := Fr.rec (motive := fun _ => Option AV) (fun n _ loc tl => sel (Nat.blt t n) (getP (pt t) loc) (lk t tl)) fr
theorem getF_eq (t : Nat) (fr : Fr) : getF t fr = sel (Nat.blt t fr.n) (getP (pt t) fr.loc) (lk t fr.tl) := rfl
noncomputable def setF (t : Nat) (v : AV) (fr : Fr) : Fr := Fr.rec (motive := fun _ => Fr) (fun n sz loc tl => sel (Nat.blt t sz) (sel (Nat.blt t n) ⟨n, sz, setP v (pt t) loc, tl⟩ ⟨n, sz, loc, .c t v tl⟩) ⟨n, sz, loc, tl⟩) fr
theorem setF_eq (t : Nat) (v : AV) (fr : Fr) : setF t v fr = sel (Nat.blt t fr.sz) (sel (Nat.blt t fr.n) ⟨fr.n, fr.sz, setP v (pt t) fr.loc, fr.tl⟩ ⟨fr.n, fr.sz, fr.loc, .c t v fr.tl⟩) fr := rfl
noncomputable def clrF (fr : Fr) : Fr := Fr.rec (motive := fun _ => Fr) (fun n sz loc _ => ⟨n, sz, loc, .nil⟩) fr
theorem clrF_eq (fr : Fr) : clrF fr = ⟨fr.n, fr.sz, fr.loc, .nil⟩ := rfl
noncomputable def orUnk (o : Option AV) : AV := Option.rec .unk (fun a => a) o
noncomputable def evT (t : Nat) (fr : Fr) : AV := orUnk (getF t fr)

/-- what a frame tells of the slots -/
structure FR (φ : PM) (fr : Fr) (a : Act) : Prop where
  gl : GOk φ
  sz : fr.sz ≤ a.tmps.size
  lt : ∀ t x, getF t fr = some x → t < fr.sz
  get : ∀ t x, getF t fr = some x → VR φ x (a.tmps.getD t undef)

theorem FR.mono {φ φ' : PM} (h : φ.le φ') {fr : Fr} {a : Act} (k : FR φ fr a) : FR φ' fr a := ⟨k.gl.mono h, k.sz, k.lt, fun t x e => (k.get t x e).mono h⟩

theorem getF_clr {t : Nat} {fr : Fr} {x : AV} (h : getF t (clrF fr) = some x) : getF t fr = some x := by
  rw [getF_eq, clrF_eq] at h
  rw [getF_eq]
  cases e : Nat.blt t fr.n with
  | true => simpa [e] using h
  | false => simp [e, lk] at h
theorem FR.clr {φ : PM} {fr : Fr} {a : Act} (k : FR φ fr a) : FR φ (clrF fr) a := ⟨k.gl, k.sz, fun t x e => k.lt t x (getF_clr e), fun t x e => k.get t x (getF_clr e)⟩

theorem blt_of_lt {a b : Nat} (h : a < b) : Nat.blt a b = true := by simpa [Nat.blt_eq] using h
theorem beq_ne {a b : Nat} (h : Nat.beq a b = false) : a ≠ b := fun e => by rw [e] at h; simp at h

theorem FR.set {φ : PM} {fr : Fr} {a : Act} (k : FR φ fr a) (t : Nat) {x : AV} {v : Value} (h : VR φ x v) : FR φ (setF t x fr) (a.put (some t) v) := by
  have hput : ∀ u, (a.put (some t) v).tmps.getD u undef = if u = t ∧ t < a.tmps.size then v else a.tmps.getD u undef := by
    intro u
    simp only [Act.put, Array.getD_eq_getD_getElem?, Array.getElem?_setIfInBounds]
    by_cases e : t = u
    · subst e
      by_cases e2 : t < a.tmps.size
      · simp [e2]
      · simp [e2]
    · rw [if_neg e, if_neg (fun h => e h.1.symm)]
  have hsz : (a.put (some t) v).tmps.size = a.tmps.size := by simp [Act.put]
  have keep : ∀ u y, u ≠ t → getF u fr = some y → VR φ y ((a.put (some t) v).tmps.getD u undef) := fun u y hu hy => by
    rw [hput, if_neg (fun h => hu h.1)]; exact k.get u y hy
  rw [setF_eq]
  refine sel_elim (C := fun r => FR φ r _) (fun h1 => ?_) (fun h1 => ?_)
  · have hlt0 : t < fr.sz := blt_lt h1
    have hlt : t < a.tmps.size := Nat.lt_of_lt_of_le hlt0 k.sz
    have hv : VR φ x ((a.put (some t) v).tmps.getD t undef) := by rw [hput, if_pos ⟨rfl, hlt⟩]; exact h
    -- what the new frame holds: the new value, or an old one
    have key : ∀ fr' : Fr, fr'.sz = fr.sz → (∀ u y, getF u fr' = some y → (u = t ∧ y = x) ∨ (u ≠ t ∧ getF u fr = some y)) → FR φ fr' (a.put (some t) v) := by
      intro fr' hs hall
      refine ⟨k.gl, by rw [hsz, hs]; exact k.sz, fun u y hy => ?_, fun u y hy => ?_⟩
      · rw [hs]; rcases hall u y hy with ⟨e, _⟩ | ⟨_, e⟩
        · rw [e]; exact hlt0
        · exact k.lt u y e
      · rcases hall u y hy with ⟨e, e2⟩ | ⟨hu, e⟩
        · subst e; subst e2; exact hv
        · exact keep u y hu e
    refine sel_elim (C := fun r => FR φ r _) (fun h2 => key _ rfl fun u y hy => ?_) (fun h2 => key _ rfl fun u y hy => ?_)
    · rw [getF_eq] at hy ⊢
      cases e : Nat.blt u fr.n with
      | true =>
        simp only [e, sel_true] at hy ⊢
        by_cases hu : u = t
        · subst hu; rw [getP_setP_same] at hy; cases hy; exact .inl ⟨rfl, rfl⟩
        · rw [getP_setP_ne _ _ (pt_ne hu)] at hy; exact .inr ⟨hu, hy⟩
      | false =>
        simp only [e, sel_false] at hy ⊢
        exact .inr ⟨fun e2 => (by rw [e2, h2] at e; cases e), hy⟩
    · rw [getF_eq] at hy ⊢
      cases e : Nat.blt u fr.n with
      | true =>
        simp only [e, sel_true] at hy ⊢
        exact .inr ⟨fun e2 => (by rw [e2, h2] at e; cases e), hy⟩
      | false =>
        simp only [e, sel_false] at hy ⊢
        have hy2 : sel (Nat.beq t u) (some x) (lk u fr.tl) = some y := hy
        cases e3 : Nat.beq t u with
        | true => rw [e3] at hy2; cases hy2; exact .inl ⟨(Nat.eq_of_beq_eq_true e3).symm, rfl⟩
        | false => rw [e3] at hy2; exact .inr ⟨fun e2 => beq_ne e3 e2.symm, hy2⟩
  · have hge : ¬ t < fr.sz := fun h => by rw [blt_of_lt h] at h1; cases h1
    exact ⟨k.gl, by rw [hsz]; exact k.sz, k.lt, fun u y hy => keep u y (fun e => hge (e ▸ k.lt u y hy)) hy⟩
end Go.Exe
