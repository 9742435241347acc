/- A part of an executor of the model over abstract values, and what it tells of the calls. -/
import Derived.Test.YtbaaogkpkgffdaaGreatDoorX5b
import Derived.Laws.Append
namespace Go.Exe
open Go
set_option linter.unusedSectionVars false
variable [Env]

/-! ### what the table of types must say -/
structure FIok (P : Program) (g : FI) (f : Field) : Prop where
  off : g.off = f.offset
  ty : g.ty = f.type
  size : ∃ i, P.info? f.type = some i ∧ i.size = g.size
  pos : g.size ≠ 0
  agg : ∃ d, P.underlying f.type = some d ∧ aggD d = g.agg

def FsOk (P : Program) : List FI → List Field → Prop
  | [], [] => True
  | g :: gs, f :: fs => FIok P g f ∧ FsOk P gs fs
  | _, _ => False

def TIok (P : Program) : TI → TypeDesc → Prop
  | .int k, .int k' => k = k'
  | .bool, .bool => True
  | .str, .string => True
  | .ptr e, .pointer e' => e = e'
  | .slice e, .slice e' => e = e'
  | .arr n e, .array n' e' => n = n' ∧ e = e'
  | .map k e, .map k' e' => k = k' ∧ e = e'
  | .struct fs, .struct fields => FsOk P fs fields.toList
  | .func, .func .. => True
  | .other, _ => True
  | _, _ => False

structure TEok (P : Program) (t : Nat) (te : TE) : Prop where
  info : ∃ i z, P.info? t = some i ∧ i.size = te.size ∧ i.bytes = te.bytes ∧ i.zero = some z ∧ (∀ φ, VR φ te.zv z) ∧ (∀ φ, VL φ te.zero z.cells.toList) ∧ z.cells.size = te.size
  und : ∃ d, P.underlying t = some d ∧ TIok P te.ti d ∧ aggD d = te.isAgg
  cmp : te.cmp ≠ [] → flatK P 20 t = some te.cmp ∧ P.eqGuardType P.depth t = false

/-- the kind of an operation that may be told of by itself -/
def fkB (ts : Array TypeId) : Builtin → FK
  | .len => match ts[0]? with
    | some t => .len t
    | none => .none
  | .min => .min
  | .max => .max
  | _ => .none
def fk : Op → FK
  | .binOp op t _ _ _ => .bin op t
  | .index t _ _ => .index t
  | .slice t _ _ _ _ => .slice t
  | .convert s d _ => .conv s d
  | .call c => match c.callee with
    | .builtin b => fkB c.argTypes b
    | _ => .none
  | _ => .none
def FactsOk (P : Program) (F : FK → AV → Option AV) : Prop := ∀ (o : Oper) (φ : PM) (act : Act) (args x : AV), VL φ args (o.op.operands.toList.map act.eval) → F (fk o.op) args = some x → fk o.op ≠ .none ∧ ∃ v, VR φ x v ∧ ∀ w, (execOp act.eval o).run P w = .ok (.value v) w
structure TTok (P : Program) (tt : TT) : Prop where
  ty : ∀ t te, getP (pt t) tt.t = some te → TEok P t te
  fx : FactsOk P tt.F
instance {P : Program} {tt : TT} : CoeFun (TTok P tt) (fun _ => ∀ t te, getP (pt t) tt.t = some te → TEok P t te) := ⟨TTok.ty⟩

theorem FsOk.get {P : Program} : ∀ {gs : List FI} {fs : List Field} {i : Nat} {g : FI}, FsOk P gs fs → gs[i]? = some g → ∃ f, fs[i]? = some f ∧ FIok P g f
  | g :: gs, f :: fs, 0, _, h, e => by simp at e; subst e; exact ⟨f, rfl, h.1⟩
  | g :: gs, f :: fs, i + 1, _, h, e => by
    simp only [List.getElem?_cons_succ] at e ⊢
    exact FsOk.get h.2 e
  | [], _, _, _, _, e => by simp at e

/-! ### operands -/
noncomputable def cvPtr (a : Option Addr) : AV := Option.rec .nilp (fun _ => .unk) a
noncomputable def cvSl (a : Option Addr) (l c : Nat) : AV := Option.rec (sel (Nat.beq l 0) (sel (Nat.beq c 0) .nils .unk) .unk) (fun _ => .unk) a
noncomputable def cvMap (a : Option Nat) : AV := Option.rec .nilm (fun _ => .unk) a
noncomputable def cvStr (l : List UInt8) : AV := .str l.length (ofB l)
noncomputable def cvA : Value → AV
  | .bool b => .bool b
  | .int k n => .int k n
  | .string s => cvStr s.data.toList
  | .pointer a => cvPtr a
  | .slice a l c => cvSl a l c
  | .map m => cvMap m
  | .nilFunc => .nilf
  | _ => .unk
noncomputable def cvL (l : List Value) : AV := List.rec (motive := fun _ => AV) .nil (fun v _ ih => .cons (cvA v) ih) l
noncomputable def cvC : Value → AV
  | .agg cs => .agg (cvL cs.toList)
  | v => cvA v
noncomputable def ev (x : Operand) (fr : Fr) : AV := Operand.rec (motive := fun _ => Fr → AV) evT (fun v _ => cvC v) (fun g _ => sel (Nat.blt g 400) (.ptr (pt g) 0) .unk) (fun f _ => .fn f .nil) x fr

theorem strB_ofB (s : ByteArray) : strB s.data.toList.length (ofB s.data.toList) = s := by
  unfold strB; rw [bytesOf_ofB]

theorem cvA_sound (φ : PM) (v : Value) : VR φ (cvA v) v := by
  cases v with
  | bool b => exact rfl
  | int k n => exact rfl
  | string s => exact ⟨by rw [strB_ofB], ofB_lt _⟩
  | pointer a => cases a with
    | none => exact rfl
    | some a => exact VR.unk _ _
  | slice a l c => cases a with
    | none =>
      show VR φ (sel (Nat.beq l 0) (sel (Nat.beq c 0) .nils .unk) .unk) _
      refine sel_elim (C := fun x => VR φ x _) (fun h1 => sel_elim (C := fun x => VR φ x _) (fun h2 => ?_) (fun _ => VR.unk _ _)) (fun _ => VR.unk _ _)
      rw [Nat.eq_of_beq_eq_true h1, Nat.eq_of_beq_eq_true h2]; exact rfl
    | some a => exact VR.unk _ _
  | map m => cases m with
    | none => exact rfl
    | some a => exact VR.unk _ _
  | nilFunc => exact rfl
  | _ => exact VR.unk _ _

theorem cvL_sound (φ : PM) : ∀ l : List Value, VL φ (cvL l) l
  | [] => VL.nil _
  | v :: l => VL.cons (cvA_sound φ v) (cvL_sound φ l)
theorem cvC_sound (φ : PM) (v : Value) : VR φ (cvC v) v := by
  unfold cvC
  split
  · exact ⟨_, rfl, cvL_sound φ _⟩
  · exact cvA_sound φ _

theorem evT_sound {φ : PM} {fr : Fr} {a : Act} (k : FR φ fr a) (t : Nat) : VR φ (evT t fr) (a.tmps.getD t undef) := by
  unfold evT
  cases e : getF t fr with
  | none => exact VR.unk _ _
  | some x => exact k.get t x e

theorem ev_sound {φ : PM} {fr : Fr} {a : Act} (k : FR φ fr a) (x : Operand) : VR φ (ev x fr) (a.eval x) := by
  cases x with
  | tmp t => exact evT_sound k t
  | const v => exact cvC_sound φ v
  | global g =>
    show VR φ (sel (Nat.blt g 400) (.ptr (pt g) 0) .unk) _
    cases hg : Nat.blt g 400 with
    | false => exact VR.unk _ _
    | true =>
      obtain ⟨top, e⟩ := k.gl g (blt_lt hg)
      exact ⟨_, e, rfl⟩
  | func f => exact ⟨#[], rfl, VL.nil _⟩

/-! ### lists of operands -/
noncomputable def mapEv (l : List Operand) (fr : Fr) : AV := List.rec (motive := fun _ => AV) .nil (fun x _ ih => .cons (ev x fr) ih) l
theorem mapEv_sound {φ : PM} {fr : Fr} {a : Act} (k : FR φ fr a) (l : List Operand) : VL φ (mapEv l fr) (l.map a.eval) := by
  induction l with
  | nil => exact VL.nil _
  | cons x l ih => exact VL.cons (ev_sound k x) ih

/-- the cells of a value; none where they are not known -/
inductive VCell where | one | agg (cs : AV) | no
noncomputable def cellK (v : AV) : VCell := AV.rec (motive := fun _ => VCell) (fun _ => .one) (fun _ _ => .one) (fun _ _ => .one) (fun _ _ => .one) .one (fun _ _ _ _ _ _ => .one) .one (fun _ => .one) .one (fun _ _ _ => .one) .one (fun cs _ => .agg cs) (fun _ _ => .no) .no .one (fun _ _ _ _ => .one) .one v
noncomputable def cellsOf (v : AV) : Option AV := VCell.rec (motive := fun _ => Option AV) (some (.cons v .nil)) some none (cellK v)

theorem cellsOf_sound {φ : PM} {x c : AV} {v : Value} (h : VR φ x v) (e : cellsOf x = some c) : VL φ c v.cells.toList := by
  have one : ∀ u : Value, u.cells = #[u] → VR φ x u → VL φ (.cons x .nil) u.cells.toList := fun u hu hv => by rw [hu]; exact VL.cons hv (VL.nil _)
  cases x with
  | bool b => cases e; exact one v (by rw [show v = _ from h]; rfl) h
  | int k n => cases e; exact one v (by rw [show v = _ from h]; rfl) h
  | str n a => cases e; exact one v (by rw [h.1]; rfl) h
  | ptr i o => cases e; obtain ⟨p, hp, e2⟩ := h; exact one v (by rw [e2]; rfl) ⟨p, hp, e2⟩
  | nilp => cases e; exact one v (by rw [show v = _ from h]; rfl) h
  | sl => cases e; obtain ⟨p, c, hp, e2, r⟩ := h; exact one v (by rw [e2]; rfl) ⟨p, c, hp, e2, r⟩
  | nils => cases e; exact one v (by rw [show v = _ from h]; rfl) h
  | map i => cases e; obtain ⟨p, hp, e2⟩ := h; exact one v (by rw [e2]; rfl) ⟨p, hp, e2⟩
  | nilm => cases e; exact one v (by rw [show v = _ from h]; rfl) h
  | fn f c => cases e; obtain ⟨p, e2, hp⟩ := h; exact one v (by rw [e2]; rfl) ⟨p, e2, hp⟩
  | nilf => cases e; exact one v (by rw [show v = _ from h]; rfl) h
  | agg cs => cases e; obtain ⟨vs, e2, hv⟩ := h; rw [e2]; exact hv
  | tup cs => cases e
  | unk => cases e
  | nil => cases e; obtain ⟨b, e2⟩ := h; exact one v (by rw [e2]; rfl) ⟨b, e2⟩
  | cons a b =>
    cases e
    have h1 : one1 v = true := by rw [show v = _ from h]; exact Env.one a
    exact one v (by cases v <;> first | rfl | (cases h1; done)) h
  | esl => cases e; obtain ⟨x, c, e2⟩ := h; exact one v (by rw [e2]; rfl) ⟨x, c, e2⟩

/-- is a value surely one cell's? -/
noncomputable def isOne (v : AV) : Bool := AV.rec (motive := fun _ => Bool) (fun _ => true) (fun _ _ => true) (fun _ _ => true) (fun _ _ => true) true (fun _ _ _ _ _ _ => true) true (fun _ => true) true (fun _ _ _ => true) true (fun _ _ => false) (fun _ _ => false) false true (fun _ _ _ _ => true) true v
noncomputable def allOne (l : AV) : Bool := foldV true (fun a b => sel (isOne a) b false) l

theorem isOne_sound {φ : PM} {x : AV} {v : Value} (h : VR φ x v) (e : isOne x = true) : one1 v = true := by
  cases x with
  | bool b => rw [show v = _ from h]; rfl
  | int k n => rw [show v = _ from h]; rfl
  | str n a => rw [h.1]; rfl
  | ptr i o => obtain ⟨p, hp, e2⟩ := h; rw [e2]; rfl
  | nilp => rw [show v = _ from h]; rfl
  | sl => obtain ⟨p, c, hp, e2, r⟩ := h; rw [e2]; rfl
  | nils => rw [show v = _ from h]; rfl
  | map i => obtain ⟨p, hp, e2⟩ := h; rw [e2]; rfl
  | nilm => rw [show v = _ from h]; rfl
  | fn f c => obtain ⟨p, e2, hp⟩ := h; rw [e2]; rfl
  | nilf => rw [show v = _ from h]; rfl
  | nil => obtain ⟨b, e2⟩ := h; rw [e2]; rfl
  | cons a b => rw [show v = _ from h]; exact Env.one a
  | esl => obtain ⟨x, c, e2⟩ := h; rw [e2]; rfl
  | _ => cases e

theorem allOne_sound {φ : PM} {x : AV} {l : List Value} (h : VL φ x l) (e : allOne x = true) : oneCells l := by
  revert e
  refine VL_induct (motive := fun x l => allOne x = true → oneCells l) (fun _ v hv => by cases hv) ?_ h
  intro a b v vs h1 h2 ih e u hu
  have e2 : sel (isOne a) (allOne b) false = true := e
  cases e3 : isOne a with
  | false => rw [e3] at e2; cases e2
  | true =>
    rw [e3] at e2
    rcases List.mem_cons.1 hu with rfl | hu
    · exact isOne_sound h1 e3
    · exact ih e2 u hu

/-! ### soundness of one operation -/
/-- a function of the program's own text -/
def FnOk (P : Program) (f : Nat) : Prop := ∃ fn c, P.funcs[f]? = some fn ∧ (fn.name == "runtime.NumGoroutine") = false ∧ fn.body = some c
def Sound1 (P : Program) (o : Oper) (act : Act) (φ : PM) (h : Hp) (w : World) : R1 → Prop
  | .fail _ => True
  | .v a h' => ∃ nx v w' φ', (execOp act.eval o).run P w = .ok nx w' ∧ (nx = .value v ∨ nx = .skip ∧ v = undef) ∧ VR φ' a v ∧ Stp φ h w φ' h' w'
  | .call f args => FnOk P f → ∃ argv, (execOp act.eval o).run P w = .ok (.enter f argv) w ∧ VL φ args argv.toList
  | .or a b => Sound1 P o act φ h w a ∨ Sound1 P o act φ h w b

/-- an operation that yields a value and leaves the heap -/
theorem Sound1.value {P : Program} {o : Oper} {act : Act} {φ : PM} {h : Hp} {w : World} (k : WR φ h w) {a : AV} {v : Value} (e : (execOp act.eval o).run P w = .ok (.value v) w) (hv : VR φ a v) :
    Sound1 P o act φ h w (.v a h) := ⟨_, v, w, φ, e, .inl rfl, hv, Stp.refl k⟩

/-- soundness of an operation that looks at no world -/
def SoundP (P : Program) (o : Oper) (act : Act) (φ : PM) (h : Hp) : R1 → Prop
  | .fail _ => True
  | .v a h' => h' = h ∧ ∃ v, VR φ a v ∧ ∀ w, (execOp act.eval o).run P w = .ok (.value v) w
  | .call _ _ => False
  | .or _ _ => False
theorem SoundP.sound {P : Program} {o : Oper} {act : Act} {φ : PM} {h : Hp} {w : World} {r : R1} (s : SoundP P o act φ h r) (k : WR φ h w) : Sound1 P o act φ h w r := by
  cases r with
  | fail => trivial
  | v a h' => obtain ⟨rfl, v, hv, e⟩ := s; exact Sound1.value k (e w) hv
  | call => exact False.elim s
  | or => exact False.elim s
theorem SoundP.value {P : Program} {o : Oper} {act : Act} {φ : PM} {h : Hp} {a : AV} {v : Value} (e : ∀ w, (execOp act.eval o).run P w = .ok (.value v) w) (hv : VR φ a v) : SoundP P o act φ h (.v a h) := ⟨rfl, v, hv, e⟩

/-- soundness of an operation that reads at most -/
def SoundR (P : Program) (o : Oper) (act : Act) (φ : PM) (h : Hp) (w : World) : R1 → Prop
  | .fail _ => True
  | .v a h' => h' = h ∧ ∃ v, VR φ a v ∧ (execOp act.eval o).run P w = .ok (.value v) w
  | .call _ _ => False
  | .or _ _ => False
theorem SoundR.sound {P : Program} {o : Oper} {act : Act} {φ : PM} {h : Hp} {w : World} {r : R1} (s : SoundR P o act φ h w r) (k : WR φ h w) : Sound1 P o act φ h w r := by
  cases r with
  | fail => trivial
  | v a h' => obtain ⟨rfl, v, hv, e⟩ := s; exact Sound1.value k e hv
  | call => exact False.elim s
  | or => exact False.elim s
theorem SoundP.read {P : Program} {o : Oper} {act : Act} {φ : PM} {h : Hp} {r : R1} (s : SoundP P o act φ h r) (w : World) : SoundR P o act φ h w r := by
  cases r with
  | fail => trivial
  | v a h' => obtain ⟨rfl, v, hv, e⟩ := s; exact ⟨rfl, v, hv, e w⟩
  | call => exact False.elim s
  | or => exact False.elim s
theorem SoundR.value {P : Program} {o : Oper} {act : Act} {φ : PM} {h : Hp} {w : World} {a : AV} {v : Value} (e : (execOp act.eval o).run P w = .ok (.value v) w) (hv : VR φ a v) : SoundR P o act φ h w (.v a h) := ⟨rfl, v, hv, e⟩

/-- the run of an operation that answers a value -/
theorem run_value {P : Program} {s : Sem Value} {w w' : World} {v : Value} (h : s.run P w = .ok v w') : (do pure (Next.value (← s)) : Sem Next).run P w = .ok (.value v) w' := by
  simp [h]
theorem run_unit {P : Program} {s : Sem Unit} {w w' : World} (h : s.run P w = .ok () w') : (do s; pure Next.skip : Sem Next).run P w = .ok .skip w' := by
  simp [h]
end Go.Exe
