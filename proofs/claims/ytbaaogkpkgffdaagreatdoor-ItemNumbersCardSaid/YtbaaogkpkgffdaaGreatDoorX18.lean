/- A part of an executor of the model over abstract values, and what it tells of the calls. -/
import Derived.Test.YtbaaogkpkgffdaaGreatDoorX17c
import Derived.LoopN
namespace Go.Exe
open Go
set_option linter.unusedSectionVars false
variable [Env]

/-! ### results -/
inductive CR where
  | fail (why : Nat)
  | val (v : AV) (h : Hp)
inductive Res where
  | fail (why : Nat)
  | norm (fr : Fr) (h : Hp)
  | exit (id : Nat) (fr : Fr) (h : Hp)
  | ret (fr : Fr) (h : Hp)
  | alt (a b : Res)
abbrev CallF := Nat → AV → Hp → CR
/-- every order of a region: 'br': this operation, what follows it; or another one -/
inductive OT where
  | done
  | stop
  | br (i : Nat) (sub alt : OT)
/-- how a region is walked: 's': a read, at once; 'a': an operation that makes cells is looked at; 'e': an operation in its turn; 't': in every order -/
inductive SI where
  | s (i : Nat) (re rea : List Nat)
  | a (i : Nat) (re : List Nat)
  | e (i : Nat) (re rea : List Nat)
  | t (x : OT)
structure FE where
  nl : Nat
  ntmps : Nat
  results : List ResultVar
  body : Code
  sch : Tr (List SI)

section
variable (tt : TT)
noncomputable def undA : AV := .tup .nil
noncomputable def putD (d : Option Nat) (v : AV) (fr : Fr) : Fr := Option.rec fr (fun d => setF d v fr) d
noncomputable def thenV (fr : Fr) (d : Option Nat) (k : Fr → Hp → Res) (r : CR) : Res := CR.rec (motive := fun _ => Res) .fail (fun v h => k (putD d v fr) h) r
noncomputable def onR1 (cf : CallF) (fr : Fr) (h : Hp) (d : Option Nat) (k : Fr → Hp → Res) (r : R1) : Res := R1.rec (motive := fun _ => Res) .fail (fun v h => k (putD d v fr) h) (fun f args => thenV fr d k (cf f args h)) (fun _ _ _ _ => .fail 77) r
/-- as onR1, where one of several ends is meant -/
noncomputable def onRA (cf : CallF) (fr : Fr) (h : Hp) (d : Option Nat) (k : Fr → Hp → Res) (r : R1) : Res := R1.rec (motive := fun _ => Res) .fail (fun v h => k (putD d v fr) h) (fun f args => thenV fr d k (cf f args h)) (fun _ _ ia ib => .alt ia ib) r
noncomputable def isB (want : Bool) (v : AV) : Option Bool := onBool (onTup none (fun _ => some false) v) (fun c => some (sel c want (nB want))) v
noncomputable def gD (want : Bool) (fr : Fr) (q : Oper) : Option Bool := Option.rec (motive := fun _ => Option Bool) none (fun d => isB want (evT d fr)) q.dst
noncomputable def gSt (all : List Oper) (fr : Fr) (g : Option (Nat × Bool)) : Option Bool := Option.rec (motive := fun _ => Option Bool) (some true) (fun p => Option.rec (motive := fun _ => Option Bool) none (gD p.2 fr) (nthF all p.1)) g
noncomputable def opG (cf : CallF) (o : Oper) (k : Fr → Hp → Res) (fr : Fr) (h : Hp) (b : Bool) : Res := sel b (onR1 cf fr h o.dst k (stepOp tt o.op fr h)) (k (putD o.dst undA fr) h)
noncomputable def opR (cf : CallF) (all : List Oper) (o : Oper) (k : Fr → Hp → Res) (fr : Fr) (h : Hp) : Res := Option.rec (motive := fun _ => Res) (.fail 60) (opG tt cf o k fr h) (gSt all fr o.guard)
noncomputable def opGA (cf : CallF) (o : Oper) (k : Fr → Hp → Res) (fr : Fr) (h : Hp) (b : Bool) : Res := sel b (onRA cf fr h o.dst k (stepOp tt o.op fr h)) (k (putD o.dst undA fr) h)
noncomputable def opRA (cf : CallF) (all : List Oper) (o : Oper) (k : Fr → Hp → Res) (fr : Fr) (h : Hp) : Res := Option.rec (motive := fun _ => Res) (.fail 60) (opGA tt cf o k fr h) (gSt all fr o.guard)
noncomputable def opsR (cf : CallF) (all : List Oper) (l : List Oper) : Fr → Hp → Res := List.rec (motive := fun _ => Fr → Hp → Res) .norm (fun o _ ih => opRA tt cf all o ih) l
noncomputable def atR (cf : CallF) (all : List Oper) (k : Fr → Hp → Res) (fr : Fr) (h : Hp) (o : Option Oper) : Res := Option.rec (motive := fun _ => Res) (.fail 61) (fun o => opR tt cf all o k fr h) o
noncomputable def eqO (x : AV) (y : Option AV) : Bool := Option.rec true (eqAV x) y
noncomputable def dstOk (fr : Fr) (d : Option Nat) (x : AV) : Bool := Option.rec true (fun d => eqO x (getF d fr)) d
noncomputable def reV (fr : Fr) (h : Hp) (o : Oper) : Bool := R1.rec (motive := fun _ => Bool) (fun _ => false) (fun x _ => dstOk fr o.dst x) (fun _ _ => false) (fun _ _ _ _ => false) (stepOp tt o.op fr h)
noncomputable def reB (fr : Fr) (h : Hp) (o : Oper) (b : Bool) : Bool := sel b (reV tt fr h o) (dstOk fr o.dst undA)
noncomputable def reOk (all : List Oper) (fr : Fr) (h : Hp) (o : Oper) : Bool := Option.rec (motive := fun _ => Bool) false (reB tt fr h o) (gSt all fr o.guard)
noncomputable def reR (all : List Oper) (re : List Nat) (k : Fr → Hp → Res) (fr : Fr) (h : Hp) : Res := List.rec (motive := fun _ => Res) (k fr h) (fun r _ ih => Option.rec (motive := fun _ => Res) (.fail 61) (fun o => sel (reOk tt all fr h o) ih (.fail 70)) (nthF all r)) re
noncomputable def prepOk (fr : Fr) (h : Hp) (o : Oper) : Bool := R1.rec (motive := fun _ => Bool) (fun _ => false) (fun _ _ => true) (fun _ _ => false) (fun _ _ _ _ => false) (stepOp tt o.op fr h)
noncomputable def paR (all : List Oper) (re : List Nat) (k : Fr → Hp → Res) (fr : Fr) (h : Hp) : Res := List.rec (motive := fun _ => Res) (k fr h) (fun r _ ih => Option.rec (motive := fun _ => Res) (.fail 71) (fun o => sel (prepOk tt fr h o) ih (.fail 71)) (nthF all r)) re
noncomputable def mergeN (h : Hp) (f1 : Fr) (h1 : Hp) (f2 : Fr) (h2 : Hp) (k : Fr → Hp → Res) : Res := sel (Nat.beq f1.n f2.n) (sel (Nat.beq f1.sz f2.sz) (sel (beqP h1.n h2.n) (k (mergeF f1 f2) (mergeH h h1 h2)) (.fail 72)) (.fail 72)) (.fail 72)
noncomputable def mergeR (h : Hp) (x y : Res) : Res := Res.rec (motive := fun _ => Res) .fail (fun f1 h1 => Res.rec (motive := fun _ => Res) .fail (fun f2 h2 => mergeN h f1 h1 f2 h2 .norm) (fun _ _ _ => .fail 73) (fun _ _ => .fail 73) (fun _ _ _ _ => .fail 78) y)
  (fun i f1 h1 => Res.rec (motive := fun _ => Res) .fail (fun _ _ => .fail 73) (fun j f2 h2 => sel (Nat.beq i j) (mergeN h f1 h1 f2 h2 (.exit i)) (.fail 73)) (fun _ _ => .fail 73) (fun _ _ _ _ => .fail 78) y) (fun f1 h1 => Res.rec (motive := fun _ => Res) .fail (fun _ _ => .fail 73) (fun _ _ _ => .fail 73) (fun f2 h2 => mergeN h f1 h1 f2 h2 .ret) (fun _ _ _ _ => .fail 78) y) (fun _ _ _ _ => .fail 78) x
noncomputable def isStop (x : OT) : Bool := OT.rec (motive := fun _ => Bool) false true (fun _ _ _ _ _ => false) x
noncomputable def otR (cf : CallF) (all : List Oper) (x : OT) : Fr → Hp → Res := OT.rec (motive := fun _ => Fr → Hp → Res) .norm (fun _ _ => .fail 74) (fun i _ alt is ia fr h => sel (isStop alt) (atR tt cf all is fr h (nthF all i)) (mergeR h (atR tt cf all is fr h (nthF all i)) (ia fr h))) x
noncomputable def andR (k : Fr → Hp → Res) (r : Res) : Res := Res.rec (motive := fun _ => Res) .fail k (fun _ _ _ => .fail 75) (fun _ _ => .fail 75) (fun _ _ _ _ => .fail 78) r
noncomputable def siR (cf : CallF) (all : List Oper) (k : Fr → Hp → Res) (fr : Fr) (h : Hp) (x : SI) : Res := SI.rec (motive := fun _ => Res) (fun i re rea => atR tt cf all (reR tt all re (paR tt all rea k)) fr h (nthF all i)) (fun i re => paR tt all (.cons i .nil) (reR tt all re k) fr h) (fun i re rea => atR tt cf all (reR tt all re (paR tt all rea k)) fr h (nthF all i)) (fun t => andR k (otR tt cf all t fr h)) x
noncomputable def schR (cf : CallF) (all : List Oper) (l : List SI) : Fr → Hp → Res := List.rec (motive := fun _ => Fr → Hp → Res) .norm (fun x _ ih fr h => siR tt cf all ih fr h x) l
noncomputable def drawR (cf : CallF) (sch : Tr (List SI)) (id : Nat) (all : List Oper) (fr : Fr) (h : Hp) : Res := Option.rec (motive := fun _ => Res) (.fail 62) (fun l => schR tt cf all l fr h) (getP (pt id) sch)
noncomputable def regR (cf : CallF) (sch : Tr (List SI)) (id : Nat) (ops : Array Oper) (draw : Bool) (fr : Fr) (h : Hp) : Res := sel draw (drawR tt cf sch id ops.toList (clrF fr) h) (opsR tt cf ops.toList ops.toList (clrF fr) h)
noncomputable def thenR (k : Fr → Hp → Res) (r : Res) : Res := Res.rec (motive := fun _ => Res) .fail k .exit .ret (fun _ _ ia ib => .alt ia ib) r
noncomputable def exitB (id id' : Nat) (fr : Fr) (h : Hp) : Res := sel (Nat.beq id' id) (.norm fr h) (.exit id' fr h)
noncomputable def blockR (id : Nat) (r : Res) : Res := Res.rec (motive := fun _ => Res) .fail .norm (exitB id) .ret (fun _ _ ia ib => .alt ia ib) r
noncomputable def loopR (b : Fr → Hp → Res) : Nat → Fr → Hp → Res := Nat.rec (fun _ _ => .fail 63) (fun _ ih fr h => thenR ih (b fr h))
noncomputable def condR (a b : Fr → Hp → Res) (c : Operand) (fr : Fr) (h : Hp) : Res := onBool (onNil (.fail 64) (mergeR h (a fr h) (b fr h)) (ev c fr)) (fun t => sel t (a fr h) (b fr h)) (ev c fr)
noncomputable def cFail : Fr → Hp → Res := fun _ _ => .fail 65
noncomputable def codeR (cf : CallF) (sch : Tr (List SI)) (c : Code) : Fr → Hp → Res := Code.rec (motive := fun _ => Fr → Hp → Res)
  .norm (regR tt cf sch) (fun _ _ ia ib fr h => thenR ib (ia fr h)) (fun c _ _ ia ib => condR ia ib c) (fun id _ ih fr h => blockR id (ih fr h)) (fun _ ih => loopR ih 1000000) (fun _ _ _ _ _ _ => cFail)
  .exit (fun _ _ => cFail) (fun _ => .norm) (fun _ => cFail) .ret (fun _ => cFail) c

noncomputable def cellR (tt : TT) (h : Hp) (t : Nat) (v : AV) : Option AV := onPtr none (fun i o => Option.rec (motive := fun _ => Option AV) none (fun te => loadVar te h i o) (ty tt t)) v
noncomputable def resR (h : Hp) (fr : Fr) (r : ResultVar) : Option AV := ResultVar.rec (motive := fun _ => Option AV) (fun t => getF t fr) (fun a t => cellR tt h t (evT a fr)) r
noncomputable def ressR (h : Hp) (fr : Fr) (l : List ResultVar) : Option AV := List.rec (motive := fun _ => Option AV) (some .nil) (fun r _ ih => consO (resR tt h fr r) ih) l
noncomputable def oneV (h : Hp) (l : AV) : CR := onCons (.val (.tup l) h) (fun a r => onNil (.val (.tup l) h) (.val a h) r) l
noncomputable def finR (rs : List ResultVar) (fr : Fr) (h : Hp) : CR := Option.rec (motive := fun _ => CR) (.fail 66) (oneV h) (ressR tt h fr rs)
/-- two ends of a call are told of as one -/
noncomputable def mergeC (h : Hp) (x y : CR) : CR := CR.rec (motive := fun _ => CR) .fail (fun a h1 => CR.rec (motive := fun _ => CR) .fail (fun b h2 => sel (eqAV a b) (sel (beqP h1.n h2.n) (.val a (mergeH h h1 h2)) (.fail 79)) (.fail 79)) y) x
noncomputable def endR (rs : List ResultVar) (h : Hp) (r : Res) : CR := Res.rec (motive := fun _ => CR) .fail (finR tt rs) (fun _ _ _ => .fail 67) (finR tt rs) (fun _ _ ia ib => mergeC h ia ib) r
noncomputable def frame0 (fe : FE) (args : AV) : Fr := ⟨fe.nl, fe.ntmps, putL args 0 .E, .nil⟩
noncomputable def enterR (cf : CallF) (fe : FE) (args : AV) (h : Hp) : CR := endR tt fe.results h (codeR tt cf fe.sch fe.body (frame0 fe args) h)
noncomputable def dispR (ft : Tr FE) (orc : Nat → Option (AV → Hp → CR)) (cf : CallF) (f : Nat) (args : AV) (h : Hp) : CR := Option.rec (motive := fun _ => CR) (Option.rec (motive := fun _ => CR) (.fail 68) (fun fe => enterR tt cf fe args h) (getP (pt f) ft)) (fun g => g args h) (orc f)
noncomputable def callAt (ft : Tr FE) (orc : Nat → Option (AV → Hp → CR)) : Nat → CallF := Nat.rec (fun _ _ _ => .fail 69) (fun _ ih => dispR tt ft orc ih)

variable {tt} {P : Program} {act : Act} {φ : PM} {fr : Fr} {h : Hp} {w : World}

/-! ### soundness -/
def CallOk (P : Program) (f : Nat) (args : AV) (h : Hp) (a : AV) (h' : Hp) : Prop :=
  ∀ φ w (argv : Array Value), WR φ h w → VL φ args argv.toList → Calls P f argv w fun e w' => ∃ v φ', e = .returned v ∧ VR φ' a v ∧ Stp φ h w φ' h' w'
def CFok (P : Program) (cf : CallF) : Prop := ∀ f args h a h', cf f args h = .val a h' → FnOk P f ∧ CallOk P f args h a h'

def Good (φ : PM) (h : Hp) (w : World) (fr' : Fr) (h' : Hp) (a' : Act) (w' : World) : Prop := ∃ φ', FR φ' fr' a' ∧ Stp φ h w φ' h' w' ∧ a'.defers = []
def QR (φ : PM) (h : Hp) (w : World) (r : Res) (e : Exit) (a : Act) (w' : World) : Prop := match r with
  | .fail _ => False
  | .norm fr h' => e = .normal ∧ Good φ h w fr h' a w'
  | .exit id fr h' => e = .exit id ∧ Good φ h w fr h' a w'
  | .ret fr h' => e = .ret ∧ Good φ h w fr h' a w'
  | .alt r1 r2 => QR φ h w r1 e a w' ∨ QR φ h w r2 e a w'
def Lives : Res → Prop
  | .fail _ => False
  | .alt a b => Lives a ∧ Lives b
  | _ => True
theorem Lives.ne {r : Res} (h : Lives r) (n : Nat) : r ≠ .fail n := by rintro rfl; exact h
/-- one of the ends -/
inductive Sub : Res → Res → Prop where
  | refl (r : Res) : Sub r r
  | left {x a b : Res} (h : Sub x a) : Sub x (.alt a b)
  | right {x a b : Res} (h : Sub x b) : Sub x (.alt a b)
theorem Sub.trans {x y z : Res} (h : Sub x y) (k : Sub y z) : Sub x z := by
  induction k with
  | refl => exact h
  | left _ ih => exact .left ih
  | right _ ih => exact .right ih
theorem Sub.lives {x r : Res} (h : Sub x r) (k : Lives r) : Lives x := by
  induction h with
  | refl => exact k
  | left _ ih => exact ih k.1
  | right _ ih => exact ih k.2

theorem Good.trans {φ1 : PM} {h1 : Hp} {w1 : World} (s : Stp φ h w φ1 h1 w1) {fr' : Fr} {h' : Hp} {a' : Act} {w' : World} (g : Good φ1 h1 w1 fr' h' a' w') : Good φ h w fr' h' a' w' :=
  let ⟨φ', k1, k2, k3⟩ := g
  ⟨φ', k1, s.trans k2, k3⟩
theorem QR.trans {φ1 : PM} {h1 : Hp} {w1 : World} (s : Stp φ h w φ1 h1 w1) {r : Res} {e : Exit} {a' : Act} {w' : World} (q : QR φ1 h1 w1 r e a' w') : QR φ h w r e a' w' := by
  induction r with
  | fail => exact q
  | norm fr h' => exact ⟨q.1, q.2.trans s⟩
  | exit id fr h' => exact ⟨q.1, q.2.trans s⟩
  | ret fr h' => exact ⟨q.1, q.2.trans s⟩
  | alt a b ia ib => exact q.imp ia ib
theorem QR.sub {x r : Res} (s : Sub x r) {e : Exit} {a' : Act} {w' : World} (q : QR φ h w x e a' w') : QR φ h w r e a' w' := by
  induction s with
  | refl => exact q
  | left _ ih => exact .inl ih
  | right _ ih => exact .inr ih
theorem QR.noPanic {r : Res} {c : List PanicEntry} {a : Act} {w' : World} (q : QR φ h w r (.panic c) a w') : False := by
  induction r with
  | fail => exact q
  | norm => exact absurd q.1 (by simp)
  | exit => exact absurd q.1 (by simp)
  | ret => exact absurd q.1 (by simp)
  | alt a b ia ib => exact q.elim ia ib

theorem FR.putD (k : FR φ fr act) (d : Option Nat) {x : AV} {v : Value} (hv : VR φ x v) : FR φ (Exe.putD d x fr) (act.put d v) := by
  cases d with
  | none => exact k
  | some d => exact k.set d hv
theorem put_defers (a : Act) (d : Option Nat) (v : Value) : (a.put d v).defers = a.defers := by cases d <;> rfl
theorem undA_sound (φ : PM) : VR φ undA undef := ⟨#[], rfl, VL.nil _⟩

/-! #### guards -/
theorem isB_sound {want : Bool} {x : AV} {v : Value} {b : Bool} (hx : VR φ x v) (e : isB want x = some b) : boolV v = some want ↔ b = true := by
  unfold isB at e
  cases x <;> first | (cases e; done) | skip
  case bool c =>
    obtain rfl : v = .bool c := hx
    cases e
    cases c <;> cases want <;> simp [nB, boolV]
  case tup cs =>
    obtain ⟨vs, rfl, _⟩ := hx
    cases e
    simp [boolV]

theorem gSt_sound {all : List Oper} {ops : Array Oper} (ha : ops.toList = all) (kf : FR φ fr act) {o : Oper} {b : Bool} (e : gSt all fr o.guard = some b) : Region.wanted o (yielded ops act.tmps) = b := by
  unfold gSt at e
  unfold Region.wanted
  cases hg : o.guard with
  | none => rw [hg] at e; cases e; rfl
  | some p =>
    obtain ⟨j, want⟩ := p
    rw [hg] at e
    replace e : (Option.rec (motive := fun _ => Option Bool) none (gD want fr) (nthF all j)) = some b := e
    rw [nthF_eq] at e
    cases hq : all[j]? with
    | none => rw [hq] at e; cases e
    | some q =>
      rw [hq] at e
      replace e : gD want fr q = some b := e
      unfold gD at e
      cases hd : q.dst with
      | none => rw [hd] at e; cases e
      | some d =>
        rw [hd] at e
        replace e : isB want (evT d fr) = some b := e
        have hev := evT_sound kf d
        have hopq : ops[j]? = some q := by rw [← Array.getElem?_toList, ha]; exact hq
        have hy : yielded ops act.tmps j = boolV (act.tmps.getD d undef) := by
          unfold yielded
          rw [hopq]
          simp only [Option.bind_some, hd, Array.getD_eq_getD_getElem?]
          cases act.tmps[d]? with
          | none => rfl
          | some v => cases v <;> rfl
        have := isB_sound hev e
        show (yielded ops act.tmps j == some want) = b
        rw [hy]
        cases b with
        | true => rw [this.2 rfl]; exact beq_self_eq_true _
        | false =>
          cases hb : (boolV (act.tmps.getD d undef) == some want) with
          | false => rfl
          | true => have := this.1 (eq_of_beq hb); cases this

/-! #### one operation of a region -/
/-- what stands behind an operation -/
def Nxt (φ : PM) (h : Hp) (w : World) (k : Fr → Hp → Res) (r : Res) (a' : Act) (w' : World) : Prop := ∃ φ' fr' h', k fr' h' = r ∧ FR φ' fr' a' ∧ Stp φ h w φ' h' w' ∧ a'.defers = []

theorem opR_sound (ht : TTok P tt) {cf : CallF} (hcf : CFok P cf) {all : List Oper} {ops : Array Oper} (ha : ops.toList = all) (kf : FR φ fr act) (kw : WR φ h w) (hd : act.defers = []) {o : Oper} {k : Fr → Hp → Res} {r : Res} (e : opR tt cf all o k fr h = r) (hl : Lives r)
    (Q : Exit → Act → World → Prop) : if Region.wanted o (yielded ops act.tmps) then o.wp P act w (Nxt φ h w k r) Q else Nxt φ h w k r (act.put o.dst undef) w := by
  unfold opR at e
  cases hg : gSt all fr o.guard with
  | none => rw [hg] at e; exact absurd e.symm (hl.ne _)
  | some b =>
    rw [hg] at e
    replace e : opG tt cf o k fr h b = r := e
    rw [gSt_sound ha kf hg]
    cases b with
    | false =>
      exact ⟨φ, _, h, e, kf.putD _ (undA_sound φ), Stp.refl kw, by rw [put_defers, hd]⟩
    | true =>
      replace e : onR1 cf fr h o.dst k (stepOp tt o.op fr h) = r := e
      have hs := stepOp_sound (o := o) ht kf kw
      simp only [if_true]
      unfold Oper.wp
      cases hr : stepOp tt o.op fr h with
      | fail n => rw [hr] at e; exact absurd e.symm (hl.ne _)
      | v a h' =>
        rw [hr] at e hs
        obtain ⟨nx, v, w', φ', hrun, hnx, hv, hst⟩ := hs
        rw [hrun]
        have fin : Nxt φ h w k r (act.put o.dst v) w' := ⟨φ', _, h', e, (kf.mono hst.ext).putD _ hv, hst, by rw [put_defers, hd]⟩
        rcases hnx with rfl | ⟨rfl, rfl⟩
        · exact fin
        · exact fin
      | or a b => rw [hr] at e; exact absurd e.symm (hl.ne _)
      | call f args =>
        rw [hr] at e hs
        replace e : thenV fr o.dst k (cf f args h) = r := e
        cases hc : cf f args h with
        | fail n => rw [hc] at e; exact absurd e.symm (hl.ne _)
        | val a h' =>
          rw [hc] at e
          obtain ⟨hfn, hcall⟩ := hcf f args h a h' hc
          obtain ⟨argv, hrun, hargs⟩ := hs hfn
          rw [hrun]
          refine (hcall φ w argv kw hargs).mono ?_
          rintro e' w' ⟨v, φ', rfl, hv, hst⟩
          exact ⟨φ', _, h', e, (kf.mono hst.ext).putD _ hv, hst, by rw [put_defers, hd]⟩

/-- what stands behind an operation, one of several ends -/
def NxtA (φ : PM) (h : Hp) (w : World) (k : Fr → Hp → Res) (r : Res) (a' : Act) (w' : World) : Prop := ∃ φ' fr' h', Sub (k fr' h') r ∧ FR φ' fr' a' ∧ Stp φ h w φ' h' w' ∧ a'.defers = []
theorem onRA_sound {cf : CallF} (hcf : CFok P cf) (kf : FR φ fr act) (kw : WR φ h w) (hd : act.defers = []) {o : Oper} {k : Fr → Hp → Res} {r : Res} {Q : Exit → Act → World → Prop} : ∀ (x : R1), Sound1 P o act φ h w x → Sub (onRA cf fr h o.dst k x) r → Lives (onRA cf fr h o.dst k x) → o.wp P act w (NxtA φ h w k r) Q
  | .fail n, _, _, hl => hl.elim
  | .or a b, hs, he, hl => by
    rcases hs with hs | hs
    · exact onRA_sound hcf kf kw hd a hs (Sub.trans (.left (.refl _)) he) hl.1
    · exact onRA_sound hcf kf kw hd b hs (Sub.trans (.right (.refl _)) he) hl.2
  | .v a h', hs, he, _ => by
    unfold Oper.wp
    obtain ⟨nx, v, w', φ', hrun, hnx, hv, hst⟩ := hs
    rw [hrun]
    have fin : NxtA φ h w k r (act.put o.dst v) w' := ⟨φ', _, h', he, (kf.mono hst.ext).putD _ hv, hst, by rw [put_defers, hd]⟩
    rcases hnx with rfl | ⟨rfl, rfl⟩
    · exact fin
    · exact fin
  | .call f args, hs, he, hl => by
    unfold Oper.wp
    replace he : Sub (thenV fr o.dst k (cf f args h)) r := he
    replace hl : Lives (thenV fr o.dst k (cf f args h)) := hl
    cases hc : cf f args h with
    | fail n => rw [hc] at hl; exact hl.elim
    | val a h' =>
      rw [hc] at he
      obtain ⟨hfn, hcall⟩ := hcf f args h a h' hc
      obtain ⟨argv, hrun, hargs⟩ := hs hfn
      rw [hrun]
      refine (hcall φ w argv kw hargs).mono ?_
      rintro e' w' ⟨v, φ', rfl, hv, hst⟩
      exact ⟨φ', _, h', he, (kf.mono hst.ext).putD _ hv, hst, by rw [put_defers, hd]⟩
theorem opRA_sound (ht : TTok P tt) {cf : CallF} (hcf : CFok P cf) {all : List Oper} {ops : Array Oper} (ha : ops.toList = all) (kf : FR φ fr act) (kw : WR φ h w) (hd : act.defers = []) {o : Oper} {k : Fr → Hp → Res} {r : Res} (e : opRA tt cf all o k fr h = r) (hl : Lives r)
    (Q : Exit → Act → World → Prop) : if Region.wanted o (yielded ops act.tmps) then o.wp P act w (NxtA φ h w k r) Q else NxtA φ h w k r (act.put o.dst undef) w := by
  unfold opRA at e
  cases hg : gSt all fr o.guard with
  | none => rw [hg] at e; exact absurd e.symm (hl.ne _)
  | some b =>
    rw [hg] at e
    replace e : opGA tt cf o k fr h b = r := e
    rw [gSt_sound ha kf hg]
    cases b with
    | false =>
      replace e : k (putD o.dst undA fr) h = r := e
      exact ⟨φ, _, h, by rw [e]; exact .refl _, kf.putD _ (undA_sound φ), Stp.refl kw, by rw [put_defers, hd]⟩
    | true =>
      replace e : onRA cf fr h o.dst k (stepOp tt o.op fr h) = r := e
      simp only [if_true]
      exact onRA_sound hcf kf kw hd _ (stepOp_sound (o := o) ht kf kw) (by rw [e]; exact .refl _) (by rw [e]; exact hl)

/-- the operations that read at most -/
noncomputable def roT (tt : TT) (o : Oper) : Bool := readOp tt o.op

theorem opR_read (ht : TTok P tt) {cf : CallF} {all : List Oper} {ops : Array Oper} (ha : ops.toList = all) (kf : FR φ fr act) (kw : WR φ h w) (hd : act.defers = []) {o : Oper} (hp : readOp tt o.op = true) {k : Fr → Hp → Res} {r : Res} (e : opR tt cf all o k fr h = r) (hl : Lives r) :
    ∃ v, YieldsW P ops (fun w' => pureOp tt o.op = true ∨ w' = w) o v act ∧ ∃ fr', k fr' h = r ∧ FR φ fr' (act.put o.dst v) ∧ (act.put o.dst v).defers = [] := by
  unfold opR at e
  cases hg : gSt all fr o.guard with
  | none => rw [hg] at e; exact absurd e.symm (hl.ne _)
  | some b =>
    rw [hg] at e
    replace e : opG tt cf o k fr h b = r := e
    have hw := gSt_sound ha kf hg
    cases b with
    | false => exact ⟨undef, .inr ⟨hw, rfl⟩, _, e, kf.putD _ (undA_sound φ), by rw [put_defers, hd]⟩
    | true =>
      replace e : onR1 cf fr h o.dst k (stepOp tt o.op fr h) = r := e
      cases hpu : pureOp tt o.op with
      | true =>
        have hs := pureOp_sound (o := o) ht kf kw hpu
        cases hr : stepOp tt o.op fr h with
        | fail n => rw [hr] at e; exact absurd e.symm (hl.ne _)
        | v a h' =>
          rw [hr] at e hs
          obtain ⟨rfl, v, hv, hrun⟩ := hs
          exact ⟨v, .inl ⟨hw, fun w' _ => hrun w'⟩, _, e, kf.putD _ hv, by rw [put_defers, hd]⟩
        | call f args => rw [hr] at hs; exact False.elim hs
        | or a b => rw [hr] at hs; exact False.elim hs
      | false =>
        have hs := readOp_sound (o := o) ht kf kw hp
        cases hr : stepOp tt o.op fr h with
        | fail n => rw [hr] at e; exact absurd e.symm (hl.ne _)
        | v a h' =>
          rw [hr] at e hs
          obtain ⟨rfl, v, hv, hrun⟩ := hs
          refine ⟨v, .inl ⟨hw, fun w' hw' => ?_⟩, _, e, kf.putD _ hv, by rw [put_defers, hd]⟩
          rcases hw' with h | rfl
          · cases h
          · exact hrun
        | call f args => rw [hr] at hs; exact False.elim hs
        | or a b => rw [hr] at hs; exact False.elim hs

/-- what stands behind an operation, where the state told of ('b') runs ahead of the real one ('a') -/
def NxtL (φ : PM) (h : Hp) (w : World) (k : Fr → Hp → Res) (r : Res) (o : Oper) (a b : Act) (a' : Act) (w' : World) : Prop :=
  ∃ v φ' fr' h', a' = a.put o.dst v ∧ k fr' h' = r ∧ FR φ' fr' (b.put o.dst v) ∧ Stp φ h w φ' h' w'

theorem opR_lag (ht : TTok P tt) {cf : CallF} (hcf : CFok P cf) {all : List Oper} {ops : Array Oper} (ha : ops.toList = all) {a b : Act} (kf : FR φ fr b) (kw : WR φ h w) {i : Nat} {o : Oper} (hi : ops[i]? = some o)
    (hex : execOp a.eval o = execOp b.eval o) (hwa : Region.wanted o (yielded ops a.tmps) = Region.wanted o (yielded ops b.tmps)) {k : Fr → Hp → Res} {r : Res} (e : opR tt cf all o k fr h = r) (hl : Lives r)
    (Q : Exit → Act → World → Prop) : wpOpR P ops (roT tt) Q i (NxtL φ h w k r o a b) a w := by
  unfold opR at e
  cases hg : gSt all fr o.guard with
  | none => rw [hg] at e; exact absurd e.symm (hl.ne _)
  | some b' =>
    rw [hg] at e
    replace e : opG tt cf o k fr h b' = r := e
    have hw := gSt_sound ha kf hg
    rw [← hwa] at hw
    unfold wpOpR
    simp only [hi]
    cases b' with
    | false =>
      rw [if_neg (by simp [hw])]
      unfold wpOp
      simp only [hi, hw, Bool.false_eq_true, if_false]
      exact ⟨undef, φ, _, h, rfl, e, kf.putD _ (undA_sound φ), Stp.refl kw⟩
    | true =>
      replace e : onR1 cf fr h o.dst k (stepOp tt o.op fr h) = r := e
      split
      · rename_i hc
        have hs := readOp_sound (o := o) ht kf kw hc.1
        cases hr : stepOp tt o.op fr h with
        | fail n => rw [hr] at e; exact absurd e.symm (hl.ne _)
        | v x h' =>
          rw [hr] at e hs
          obtain ⟨rfl, v, hv, hrun⟩ := hs
          exact ⟨v, by rw [hex]; exact hrun, v, φ, _, _, rfl, e, kf.putD _ hv, Stp.refl kw⟩
        | call f args => rw [hr] at hs; exact False.elim hs
        | or a b => rw [hr] at hs; exact False.elim hs
      · have hs := stepOp_sound (o := o) ht kf kw
        unfold wpOp
        simp only [hi, hw, if_true]
        left
        unfold Oper.wp
        rw [hex]
        cases hr : stepOp tt o.op fr h with
        | fail n => rw [hr] at e; exact absurd e.symm (hl.ne _)
        | v x h' =>
          rw [hr] at e hs
          obtain ⟨nx, v, w', φ', hrun, hnx, hv, hst⟩ := hs
          rw [hrun]
          have fin : NxtL φ h w k r o a b (a.put o.dst v) w' := ⟨v, φ', _, h', rfl, e, (kf.mono hst.ext).putD _ hv, hst⟩
          rcases hnx with rfl | ⟨rfl, rfl⟩
          · exact fin
          · exact fin
        | or a b => rw [hr] at e; exact absurd e.symm (hl.ne _)
        | call f args =>
          rw [hr] at e hs
          replace e : thenV fr o.dst k (cf f args h) = r := e
          cases hc : cf f args h with
          | fail n => rw [hc] at e; exact absurd e.symm (hl.ne _)
          | val x h' =>
            rw [hc] at e
            obtain ⟨hfn, hcall⟩ := hcf f args h x h' hc
            obtain ⟨argv, hrun, hargs⟩ := hs hfn
            rw [hrun]
            refine (hcall φ w argv kw hargs).mono ?_
            rintro e' w' ⟨v, φ', rfl, hv, hst⟩
            exact ⟨v, φ', _, h', rfl, e, (kf.mono hst.ext).putD _ hv, hst⟩

/-! #### reads that are looked at anew -/
theorem FR.keep (k : FR φ fr act) {d : Option Nat} {v : Value} (h : ∀ t x, d = some t → getF t fr = some x → VR φ x v) : FR φ fr (act.put d v) := by
  refine ⟨k.gl, by rw [put_size]; exact k.sz, k.lt, fun t x e => ?_⟩
  rw [put_getD]
  split
  · rename_i hc; exact h t x hc.1 e
  · exact k.get t x e
theorem FR.same {A B : Act} (k : FR φ fr B) (hs : A.tmps.size = B.tmps.size) (h : ∀ t, A.tmps.getD t undef = B.tmps.getD t undef) : FR φ fr A :=
  ⟨k.gl, by rw [hs]; exact k.sz, k.lt, fun t x e => by rw [h]; exact k.get t x e⟩

theorem dstOk_inv {d : Option Nat} {x : AV} (h : dstOk fr d x = true) {t : Nat} {y : AV} (hd : d = some t) (hy : getF t fr = some y) : y = x := by
  subst hd
  replace h : eqO x (getF t fr) = true := h
  rw [hy] at h
  exact (of_decide_eq_true h).symm

theorem re_sound (ht : TTok P tt) {all : List Oper} {ops : Array Oper} (ha : ops.toList = all) (kf : FR φ fr act) (kw : WR φ h w) {o : Oper} (hp : readOp tt o.op = true) (e : reOk tt all fr h o = true) :
    ∃ v, YieldsW P ops (fun w' => w' = w) o v act ∧ FR φ fr (act.put o.dst v) := by
  unfold reOk at e
  cases hg : gSt all fr o.guard with
  | none => rw [hg] at e; cases e
  | some b =>
    rw [hg] at e
    replace e : reB tt fr h o b = true := e
    have hw := gSt_sound ha kf hg
    cases b with
    | false => exact ⟨undef, .inr ⟨hw, rfl⟩, kf.keep fun t x hd hx => by rw [dstOk_inv e hd hx]; exact undA_sound φ⟩
    | true =>
      replace e : reV tt fr h o = true := e
      unfold reV at e
      have hs := readOp_sound (o := o) ht kf kw hp
      cases hr : stepOp tt o.op fr h with
      | fail n => rw [hr] at e; cases e
      | v x h' =>
        rw [hr] at e hs
        obtain ⟨rfl, v, hv, hrun⟩ := hs
        exact ⟨v, .inl ⟨hw, fun w' hw' => by subst hw'; exact hrun⟩, kf.keep fun t y hd hy => by rw [dstOk_inv e hd hy]; exact hv⟩
      | call f args => rw [hr] at e; cases e
      | or a b => rw [hr] at e; cases e

theorem reR_inv {all : List Oper} {k : Fr → Hp → Res} {r : Res} (hl : Lives r) : ∀ {re : List Nat}, reR tt all re k fr h = r → k fr h = r ∧ ∀ j ∈ re, ∃ o, all[j]? = some o ∧ reOk tt all fr h o = true := by
  intro re
  induction re with
  | nil => intro e; exact ⟨e, fun j hj => by cases hj⟩
  | cons j re ih =>
    intro e
    replace e : (Option.rec (motive := fun _ => Res) (.fail 61) (fun o => sel (reOk tt all fr h o) (reR tt all re k fr h) (.fail 70)) (nthF all j)) = r := e
    rw [nthF_eq] at e
    cases ho : all[j]? with
    | none => rw [ho] at e; exact absurd e.symm (hl.ne _)
    | some o =>
      rw [ho] at e
      replace e : sel (reOk tt all fr h o) (reR tt all re k fr h) (.fail 70) = r := e
      cases hr : reOk tt all fr h o with
      | false => rw [hr] at e; exact absurd e.symm (hl.ne _)
      | true =>
        rw [hr] at e
        obtain ⟨h1, h2⟩ := ih e
        refine ⟨h1, fun i hi => ?_⟩
        rcases List.mem_cons.1 hi with rfl | hi
        · exact ⟨o, ho, hr⟩
        · exact h2 i hi

/-- the pending reads yield anew -/
theorem refill (ht : TTok P tt) {all : List Oper} {ops : Array Oper} (ha : ops.toList = all) (hsel : ∀ (j : Nat) (o : Oper) cs b, ops[j]? = some o → o.op ≠ .select cs b) (kw : WR φ h w) : ∀ (js : List Nat) (A B : Act), FR φ fr B → Ag ops js A B →
    (∀ j ∈ js, ∃ o, ops[j]? = some o ∧ readOp tt o.op = true ∧ selfOk ops o = true ∧ reOk tt all fr h o = true) → js.Pairwise (Rel .any ops) → ∃ b, Fill P ops w js A b ∧ FR φ fr b := by
  intro js
  induction js with
  | nil =>
    intro A B kf hag _ _
    refine ⟨A, rfl, kf.same hag.1 fun t => ?_⟩
    rcases hag.2.2 t with ⟨j, hj, _⟩ | h
    · cases hj
    · exact h
  | cons j js ih =>
    intro A B kf hag hall hpw
    obtain ⟨o, ho, hro, hself, hre⟩ := hall j (List.mem_cons_self ..)
    obtain ⟨v, hy, kf'⟩ := re_sound ht ha kf kw hro hre
    rw [List.pairwise_cons] at hpw
    have hsame : ∀ t ∈ o.looksAt ops, A.tmps.getD t undef = B.tmps.getD t undef := by
      intro t htl
      rcases hag.2.2 t with ⟨j', hj', o', ho', hd⟩ | h
      · exfalso
        rcases List.mem_cons.1 hj' with rfl | hj'
        · rw [ho] at ho'; cases ho'
          simp [selfOk, hd] at hself
          exact hself htl
        · rcases hpw.1 j' hj' o o' ho ho' with ⟨_, hl⟩ | hap
          · simp [later, hd] at hl
            exact hl.1 htl
          · exact (Oper.apart_spec hap).2.2 t hd htl
      · exact h
    have hyA : YieldsW P ops (fun w' => w' = w) o v A := hy.of_same (execOp_same (fun cs b => hsel j o cs b ho) hsame) (wanted_same hsame)
    have hag' : Ag ops js (A.put o.dst v) (B.put o.dst v) := by
      refine ⟨by rw [put_size, put_size, hag.1], by rw [show (A.put o.dst v).defers = A.defers by cases o.dst <;> rfl, show (B.put o.dst v).defers = B.defers by cases o.dst <;> rfl]; exact hag.2.1, fun t => ?_⟩
      rw [put_getD, put_getD, hag.1]
      rcases hag.2.2 t with ⟨j', hj', o', ho', hd⟩ | h
      · rcases List.mem_cons.1 hj' with rfl | hj'
        · rw [ho] at ho'; cases ho'
          right
          by_cases hlt : t < B.tmps.size
          · simp [hd, hlt]
          · have hge : B.tmps.size ≤ t := Nat.le_of_not_lt hlt
            have h1 : A.tmps.getD t undef = undef := by rw [Array.getD_eq_getD_getElem?, Array.getElem?_eq_none (by rw [hag.1]; exact hge)]; rfl
            have h2 : B.tmps.getD t undef = undef := by rw [Array.getD_eq_getD_getElem?, Array.getElem?_eq_none hge]; rfl
            rw [h1, h2]
        · exact .inl ⟨j', hj', o', ho', hd⟩
      · rw [h]; exact .inr rfl
    obtain ⟨b, hf, kfb⟩ := ih _ _ kf' hag' (fun j' hj' => hall j' (List.mem_cons_of_mem _ hj')) hpw.2
    exact ⟨b, ⟨o, v, ho, hyA, hf⟩, kfb⟩

/-! #### regions in the order of the text -/
theorem opsR_sound (ht : TTok P tt) {cf : CallF} (hcf : CFok P cf) {all : List Oper} {ops : Array Oper} (ha : ops.toList = all) {φ0 : PM} {h0 : Hp} {w0 : World} : ∀ (l : List Oper) (j : Nat), (∀ i, l[i]? = ops[j + i]?) →
    ∀ {r : Res} (_ : Lives r) {φ : PM} {fr : Fr} {h : Hp} {w : World} {act : Act}, FR φ fr act → Stp φ0 h0 w0 φ h w → act.defers = [] → opsR tt cf all l fr h = r → wpOps P ops (QR φ0 h0 w0 r) (List.range' j l.length) act w := by
  intro l
  induction l with
  | nil =>
    intro j _ r hl φ fr h w act kf hs hd e
    subst e
    exact ⟨rfl, φ, kf, hs, hd⟩
  | cons o l ih =>
    intro j hl2 r hl φ fr h w act kf hs hd e
    have ho : ops[j]? = some o := by simpa using (hl2 0).symm
    rw [List.length_cons, List.range'_succ, wpOps_cons]
    unfold wpOp
    simp only [ho]
    have h1 := opRA_sound ht hcf ha kf hs.wr hd (show opRA tt cf all o (opsR tt cf all l) fr h = r from e) hl (QR φ0 h0 w0 r)
    have key : ∀ a' w', NxtA φ h w (opsR tt cf all l) r a' w' → wpOps P ops (QR φ0 h0 w0 r) (List.range' (j + 1) l.length) a' w' := by
      rintro a' w' ⟨φ', fr', h', e', kf', hs', hd'⟩
      have := ih (j + 1) (fun i => by have := hl2 (i + 1); simpa [Nat.add_assoc, Nat.add_comm 1 i] using this) (e'.lives hl) kf' (hs.trans hs') hd' rfl
      exact wpOps_monoQ (fun _ _ _ q => q.sub e') _ _ _ this
    cases hw : Region.wanted o (yielded ops act.tmps) with
    | true => rw [hw] at h1; exact .inl (Oper.wp_mono key h1)
    | false => rw [hw] at h1; exact key _ _ h1

/-! #### regions that draw their order -/
noncomputable def relB (ops : Array Oper) (o : Oper) (i : Nat) (p : Nat × Nat) : Bool := match ops[p.1]? with
  | none => false
  | some r => if Nat.testBit p.2 i then later ops o r else r.apart ops o
noncomputable def apB (ops : Array Oper) (o : Oper) (p : Nat) : Bool := match ops[p]? with
  | none => false
  | some r => r.apart ops o
noncomputable def lagB (ops : Array Oper) (o : Oper) (i : Nat) (re : List Nat) (p : Nat × Nat) : Bool := Nat.testBit p.2 i || (apB ops o p.1 && re.contains p.1)
noncomputable def schedOk (tt : TT) (ops : Array Oper) : List SI → Array Bool → List (Nat × Nat) → List Nat → Bool
  | [], C, _, PR => (Region.ready .any ops C).isEmpty && PR.isEmpty
  | .s i re rea :: l, C, S, PR => (match ops[i]? with
      | none => false
      | some o => (Region.ready .any ops C).contains i && readOp tt o.op && selfOk ops o && S.all (relB ops o i) && PR.all (apB ops o) && (PR.isEmpty || (re.contains i && S.all (fun p => re.contains p.1) && PR.all (fun p => rea.contains p)))) && schedOk tt ops l (C.setIfInBounds i true) ((i, waits .any ops i 2) :: S) PR
  | .a i re :: l, C, S, PR => (match ops[i]? with
      | none => false
      | some o => (Region.ready .any ops C).contains i && allocOp o.op && o.guard.isNone && !PR.contains i && S.all (fun p => Nat.testBit p.2 i || apB ops o p.1) && PR.all (apB ops o) && S.all (fun p => re.contains p.1)) && schedOk tt ops l C S (i :: PR)
  | .t _ :: _, _, _, _ => false
  | .e i re rea :: l, C, S, PR => (match ops[i]? with
      | none => false
      | some o => (Region.ready .any ops C).contains i && S.all (lagB ops o i re) && Region.ready .any ops (allOf C (PR.erase i)) == [i] && (PR.erase i).all (fun p => apB ops o p && rea.contains p)) && schedOk tt ops l (C.setIfInBounds i true) S (PR.erase i)
def cntS : List SI → Nat
  | [] => 0
  | .a _ _ :: l => cntS l
  | _ :: l => cntS l + 1

theorem apB_spec {ops : Array Oper} {o : Oper} {p : Nat} (h : apB ops o p = true) : ∃ r, ops[p]? = some r ∧ r.apart ops o = true := by
  unfold apB at h
  cases hr : ops[p]? with
  | none => simp [hr] at h
  | some r => simp only [hr] at h; exact ⟨r, rfl, h⟩

theorem paR_inv {all : List Oper} {k : Fr → Hp → Res} {r : Res} (hl : Lives r) : ∀ {re : List Nat}, paR tt all re k fr h = r → k fr h = r ∧ ∀ j ∈ re, ∃ o, all[j]? = some o ∧ prepOk tt fr h o = true := by
  intro re
  induction re with
  | nil => intro e; exact ⟨e, fun j hj => by cases hj⟩
  | cons j re ih =>
    intro e
    replace e : (Option.rec (motive := fun _ => Res) (.fail 71) (fun o => sel (prepOk tt fr h o) (paR tt all re k fr h) (.fail 71)) (nthF all j)) = r := e
    rw [nthF_eq] at e
    cases ho : all[j]? with
    | none => rw [ho] at e; exact absurd e.symm (hl.ne _)
    | some o =>
      rw [ho] at e
      replace e : sel (prepOk tt fr h o) (paR tt all re k fr h) (.fail 71) = r := e
      cases hr : prepOk tt fr h o with
      | false => rw [hr] at e; exact absurd e.symm (hl.ne _)
      | true =>
        rw [hr] at e
        obtain ⟨h1, h2⟩ := ih e
        refine ⟨h1, fun i hi => ?_⟩
        rcases List.mem_cons.1 hi with rfl | hi
        · exact ⟨o, ho, hr⟩
        · exact h2 i hi
theorem prepOk_sound (ht : TTok P tt) (kf : FR φ fr act) {o : Oper} (hp : allocOp o.op = true) (e : prepOk tt fr h o = true) : ∃ cells T V, RunA P o act cells T V := by
  have hs := allocOp_sound (P := P) (h := h) ht kf hp
  unfold prepOk at e
  cases hr : stepOp tt o.op fr h with
  | fail n => rw [hr] at e; cases e
  | v a h' => rw [hr] at hs; obtain ⟨x, mk, cells, T, V, _, _, _, h4, _⟩ := hs; exact ⟨cells, T, V, h4⟩
  | call f args => rw [hr] at e; cases e
  | or a b => rw [hr] at e; cases e

theorem RunA.same {o : Oper} {A B : Act} {cells : Array Value} {T : TypeId} {V : Nat → Value} (e : execOp A.eval o = execOp B.eval o) (h : RunA P o A cells T V) : RunA P o B cells T V := by
  unfold RunA at *
  rw [← e]; exact h
theorem RunA.det {o : Oper} {A : Act} {c1 c2 : Array Value} {T1 T2 : TypeId} {V1 V2 : Nat → Value} (h1 : RunA P o A c1 T1 V1) (h2 : RunA P o A c2 T2 V2) : c1 = c2 ∧ T1 = T2 ∧ ∀ w : World, V1 w.heap.size = V2 w.heap.size := by
  have key : ∀ w : World, V1 w.heap.size = V2 w.heap.size ∧ c1 = c2 ∧ T1 = T2 := by
    intro w
    have e := (h1 w).symm.trans (h2 w)
    injection e with e1 e2
    have e1 : V1 w.heap.size = V2 w.heap.size := by injection e1
    have e3 : w.heap.push (.cells c1 T1) = w.heap.push (.cells c2 T2) := congrArg World.heap e2
    have e4 := congrArg (fun x => x[w.heap.size]?) e3
    simp only [Array.getElem?_push_size] at e4
    injection e4 with e4
    injection e4 with e5 e6
    exact ⟨e1, e5, e6⟩
  have w0 : World := default
  exact ⟨(key w0).2.1, (key w0).2.2, fun w => (key w).1⟩
theorem V_at {V1 V2 : Nat → Value} (h : ∀ w : World, V1 w.heap.size = V2 w.heap.size) (n : Nat) : V1 n = V2 n := by
  have := h { (default : World) with heap := Array.replicate n (.map #[] 0) }
  simpa using this

/-- a row of cells that nobody is told of -/
theorem Stp.push {φ : PM} {h : Hp} {w : World} (k : WR φ h w) (o : Obj) : Stp φ h w φ h { w with heap := w.heap.push o } :=
  ⟨PM.le_refl _, ⟨k.gl, fun i ob hi => let ⟨p, hp, ho⟩ := k.obj i ob hi; ⟨p, hp, ho.heap (by
      have := ho.lt
      show (w.heap.push o)[p.blk]? = _
      rw [Array.getElem?_push, if_neg (by omega)])⟩, k.inj, k.fresh⟩, ⟨rfl, rfl, rfl, by simp, fun b hb _ => by show (w.heap.push o)[b]? = _; rw [Array.getElem?_push, if_neg (by omega)]⟩, fun i p hi hp => .inl ⟨i, p, hi, hp, rfl⟩, fun i p hi hp => .inl ⟨i, p, hi, hp, rfl⟩, Nat.le_refl _, Lg.refl _⟩
/-- a row of cells that is there, and of which nobody is told yet -/
theorem WR.adopt {φ : PM} {h : Hp} {w : World} (k : WR φ h w) {x : AV} {cells : Array Value} {T : TypeId} (hx : VL φ x cells.toList) {blk : Nat} (hb : w.heap[blk]? = some (.cells cells T (0, 0))) (hown : ∀ id q, (getP id h.t).isSome → φ id = some q → q.blk ≠ blk) : WR (φ.set h.n ⟨blk, 0, cells.size⟩) (newBlk h x false false) w := by
  have hle : φ.le (φ.set h.n ⟨blk, 0, cells.size⟩) := PM.le_set _ (k.fresh _ (Nat.le_refl _)).2
  refine ⟨k.gl.mono hle, fun i o hi => ?_, fun i j p q hi hj hp hq e => ?_, fun i hi => ?_⟩
  · by_cases e : i = h.n
    · subst e
      rw [show (newBlk h x false false).t = setP (.cells (lenL x) (putL x 0 .E) false false) h.n h.t from rfl, getP_setP_same] at hi
      cases hi
      refine ⟨_, PM.set_same _ _ _, cells, T, (0, 0), hb, ?_, Nat.le_refl _, fun _ => rfl, fun j _ => by simp, fun j a hj hg => ?_⟩
      · rw [hx.len]; simp
      · rw [hx.len] at hj
        obtain ⟨b, v, g1, g2, g3⟩ := (putL_get hx 0 .E j).2 (by omega) (by omega)
        rw [g1] at hg; cases hg
        exact ⟨v, by simpa using g2, g3.mono hle⟩
    · rw [show (newBlk h x false false).t = setP (.cells (lenL x) (putL x 0 .E) false false) h.n h.t from rfl, getP_setP_ne _ _ e] at hi
      obtain ⟨p, hp, ho⟩ := k.obj i o hi
      exact ⟨p, hle _ _ hp, ho.mono hle⟩
  · have key : ∀ i p, (getP i (newBlk h x false false).t).isSome → φ.set h.n ⟨blk, 0, cells.size⟩ i = some p → (i = h.n ∧ p.blk = blk) ∨ ((getP i h.t).isSome ∧ φ i = some p ∧ p.blk ≠ blk) := by
      intro i p hi hp
      by_cases e : i = h.n
      · subst e; rw [PM.set_same] at hp; cases hp; exact .inl ⟨rfl, rfl⟩
      · rw [show (newBlk h x false false).t = setP (.cells (lenL x) (putL x 0 .E) false false) h.n h.t from rfl, getP_setP_ne _ _ e] at hi
        rw [PM.set_ne _ _ e] at hp
        exact .inr ⟨hi, hp, hown i p hi hp⟩
    rcases key i p hi hp with ⟨e1, e2⟩ | ⟨h1, h2, h3⟩ <;> rcases key j q hj hq with ⟨f1, f2⟩ | ⟨g1, g2, g3⟩
    · rw [e1, f1]
    · exact absurd (e.symm.trans e2) g3
    · exact absurd (e.trans f2) h3
    · exact k.inj i j p q h1 g1 h2 g2 e
  · have hi' : toN h.n + 1 ≤ toN i := by rw [← toN_succP]; exact hi
    have hne : i ≠ h.n := fun e => by rw [e] at hi'; omega
    obtain ⟨f1, f2⟩ := k.fresh i (by omega)
    exact ⟨by rw [show (newBlk h x false false).t = setP (.cells (lenL x) (putL x 0 .E) false false) h.n h.t from rfl, getP_setP_ne _ _ hne]; exact f1, by rw [PM.set_ne _ _ hne]; exact f2⟩
theorem Stp.adopt {φ0 φ : PM} {h0 h : Hp} {w0 w : World} (s : Stp φ0 h0 w0 φ h w) {x : AV} {cells : Array Value} {T : TypeId} (hx : VL φ x cells.toList) {blk : Nat} (hb : w.heap[blk]? = some (.cells cells T (0, 0))) (hown : ∀ id q, (getP id h.t).isSome → φ id = some q → q.blk ≠ blk)
    (hge : w0.heap.size ≤ blk) : Stp φ0 h0 w0 (φ.set h.n ⟨blk, 0, cells.size⟩) (newBlk h x false false) w where
  ext := PM.le_trans s.ext (PM.le_set _ (s.wr.fresh _ (Nat.le_refl _)).2)
  wr := s.wr.adopt hx hb hown
  fr := s.fr
  orig := fun i p hi hp => by
    by_cases e : i = h.n
    · subst e; rw [PM.set_same] at hp; cases hp; exact .inr hge
    · rw [show (newBlk h x false false).t = setP (.cells (lenL x) (putL x 0 .E) false false) h.n h.t from rfl, getP_setP_ne _ _ e] at hi
      rw [PM.set_ne _ _ e] at hp
      exact s.orig i p hi hp
  origW := fun i p ⟨o, hi, ho⟩ hp => by
    by_cases e : i = h.n
    · subst e; rw [PM.set_same] at hp; cases hp; exact .inr hge
    · rw [show (newBlk h x false false).t = setP (.cells (lenL x) (putL x 0 .E) false false) h.n h.t from rfl, getP_setP_ne _ _ e] at hi
      rw [PM.set_ne _ _ e] at hp
      exact s.origW i p ⟨o, hi, ho⟩ hp
  next := by show toN h0.n ≤ toN (succP h.n); rw [toN_succP]; exact Nat.le_succ_of_le s.next
  lg := by
    obtain ⟨l1, e1, k1, f1⟩ := s.lg
    exact ⟨l1, e1, k1, fun i hi hn => (getP_setP_ne _ _ (fun e => by rw [e] at hi; exact absurd s.next (by omega))).trans (f1 i hi hn)⟩

structure Inv (P : Program) (tt : TT) (all : List Oper) (ops : Array Oper) (w0 : World) (S : List (Nat × Nat)) (PR : List Nat) (L0 : Array Bool) (js pn ahs : List Nat) (φ : PM) (fr : Fr) (h : Hp) (w : World) (a c b : Act) (bk : Nat → Nat) : Prop where
  dc : DC .any ops L0
  dcL : DC .any ops (allOf L0 ahs)
  dcC : DC .any ops (allOf L0 js)
  vp : VP .any ops L0 js
  pw : js.Pairwise (Rel .any ops)
  nd : js.Nodup
  sm : ∀ p ∈ S, p.2 = waits .any ops p.1 2
  sub : ∀ j ∈ js, ∃ p ∈ S, p.1 = j
  so : ∀ p ∈ S, ∃ o, ops[p.1]? = some o ∧ readOp tt o.op = true ∧ selfOk ops o = true
  pr : ∀ p, p ∈ PR ↔ p ∈ pn ∨ p ∈ ahs
  pnd : (pn ++ ahs).Nodup
  prn : PR.Nodup
  prA : ∀ p ∈ PR, ∃ o, ops[p]? = some o ∧ allocOp o.op = true ∧ o.guard = none ∧ p ∈ Region.ready .any ops (allOf L0 js) ∧ prepOk tt fr h o = true
  prS : ∀ p ∈ PR, ∀ q ∈ S, Anc .any ops q.1 p ∨ ∀ o r, ops[p]? = some o → ops[q.1]? = some r → r.apart ops o = true
  prP : ∀ p ∈ PR, ∀ q ∈ PR, p ≠ q → ∀ o r, ops[p]? = some o → ops[q]? = some r → o.apart ops r = true
  ah : ∀ p ∈ ahs, w0.heap.size ≤ bk p ∧ bk p < w.heap.size ∧ (∀ id q, (getP id h.t).isSome → φ id = some q → q.blk ≠ bk p) ∧ ∀ o cells T V, ops[p]? = some o → RunA P o b cells T V →
    w.heap[bk p]? = some (.cells cells T (0, 0)) ∧ ∀ d, o.dst = some d → d < a.tmps.size → a.tmps.getD d undef = V (bk p)
  inj : ∀ p ∈ ahs, ∀ q ∈ ahs, bk p = bk q → p = q
  fill : Fill P ops w js c b
  ag : Ag ops ahs c a
  re : PR ≠ [] → ∀ j ∈ js, ∃ o, ops[j]? = some o ∧ reOk tt all fr h o = true
  df : b.defers = []

theorem VP_listed {ops : Array Oper} : ∀ {js : List Nat} {L : Array Bool}, VP .any ops L js → ∀ j ∈ js, (allOf L js).getD j false = true ∧ L.getD j true = false := by
  intro js
  induction js with
  | nil => intro L _ j hj; cases hj
  | cons k js ih =>
    intro L hv j hj
    have hk := (mem_ready.1 hv.1).1
    rcases List.mem_cons.1 hj with rfl | hj
    · refine ⟨allOf_get js _ j false ?_, hk⟩
      rcases Nat.lt_or_ge j L.size with h' | h'
      · simp [h']
      · simp [Array.getElem?_eq_none h'] at hk
    · obtain ⟨h1, h2⟩ := ih hv.2 j hj
      refine ⟨h1, ?_⟩
      by_cases e : k = j
      · subst e; exact hk
      · rwa [getD_set_ne true e] at h2
theorem allOf_inv : ∀ (js : List Nat) (L : Array Bool) (j : Nat), (allOf L js).getD j false = true → L.getD j false = true ∨ j ∈ js := by
  intro js
  induction js with
  | nil => intro L j h; exact .inl h
  | cons k js ih =>
    intro L j h
    rcases ih (L.setIfInBounds k true) j h with h1 | h1
    · by_cases e : k = j
      · exact .inr (by rw [e]; exact List.mem_cons_self ..)
      · rw [getD_set_ne false e] at h1; exact .inl h1
    · exact .inr (List.mem_cons_of_mem _ h1)
theorem allOf_un {js : List Nat} {L : Array Bool} {j : Nat} (h : (allOf L js).getD j true = false) : L.getD j true = false := by
  cases e : L.getD j true with
  | false => rfl
  | true => rw [allOf_get js L j true e] at h; cases h
theorem listed_not {L : Array Bool} {j : Nat} (h : L.getD j false = true) (h2 : L.getD j true = false) : False := by
  have := unlisted h2
  rw [h] at this; cases this
theorem allOf_size : ∀ (js : List Nat) (L : Array Bool), (allOf L js).size = L.size := by
  intro js
  induction js with
  | nil => intro L; rfl
  | cons k js ih => intro L; show (allOf (L.setIfInBounds k true) js).size = _; rw [ih]; simp
theorem allOf_self : ∀ (js : List Nat) (L : Array Bool) (j : Nat), j ∈ js → j < L.size → (allOf L js).getD j false = true := by
  intro js
  induction js with
  | nil => intro L j h; cases h
  | cons k js ih =>
    intro L j h hlt
    by_cases e : k = j
    · subst e; exact allOf_get js _ k false (by simp [hlt])
    · exact ih _ j (by rcases List.mem_cons.1 h with h | h; exact absurd h.symm e; exact h) (by simpa using hlt)
theorem allOf_erase : ∀ (js : List Nat) (L : Array Bool) (j : Nat), j ∈ js → allOf (L.setIfInBounds j true) (js.erase j) = allOf L js := by
  intro js
  induction js with
  | nil => intro L j h; cases h
  | cons k js ih =>
    intro L j h
    by_cases e : k = j
    · subst e; rw [List.erase_cons_head]; rfl
    · rw [List.erase_cons_tail (by simpa using e)]
      show allOf ((L.setIfInBounds j true).setIfInBounds k true) (js.erase j) = allOf (L.setIfInBounds k true) js
      rw [Array.setIfInBounds_comm _ _ (Ne.symm e)]
      exact ih _ j (by rcases List.mem_cons.1 h with h | h; exact absurd h.symm e; exact h)
theorem in_range {L : Array Bool} {j : Nat} (h : L.getD j true = false) : j < L.size := by
  rcases Nat.lt_or_ge j L.size with h' | h'
  · exact h'
  · simp [Array.getElem?_eq_none h'] at h
theorem apart_symm {ops : Array Oper} {x y : Oper} (h : x.apart ops y = true) : y.apart ops x = true := by
  obtain ⟨h1, h2, h3⟩ := Oper.apart_spec h
  unfold Oper.apart
  cases hx : x.dst with
  | none => cases hy : y.dst with
    | none => rfl
    | some d => simp; exact h3 d hy
  | some d => cases hy : y.dst with
    | none => simp; exact h1 d hx
    | some d' =>
      have := h2 d hx
      rw [hy] at this
      simp
      exact ⟨⟨h3 d' hy, fun e => this (by rw [e])⟩, h1 d hx⟩
theorem schedOk_len {ops : Array Oper} : ∀ (l : List SI) (C : Array Bool) (S : List (Nat × Nat)) (PR : List Nat), schedOk tt ops l C S PR = true → PR.length ≤ cntS l := by
  intro l
  induction l with
  | nil =>
    intro C S PR h
    simp [schedOk] at h
    simp [h.2]
  | cons x l ih =>
    intro C S PR h
    cases x with
    | s i re rea => simp only [schedOk, Bool.and_eq_true] at h; have := ih _ _ _ h.2; simp only [cntS]; omega
    | a i re => simp only [schedOk, Bool.and_eq_true] at h; have := ih _ _ _ h.2; simp only [cntS]; simp at this; omega
    | t x => simp [schedOk] at h
    | e i re rea =>
      simp only [schedOk, Bool.and_eq_true] at h
      have h1 := ih _ _ _ h.2
      have h2 := List.length_erase (a := i) (l := PR)
      simp only [cntS]
      split at h2 <;> omega
theorem Inv.start {all : List Oper} {ops : Array Oper} {w0 : World} (hd : act.defers = []) (bk : Nat → Nat) : Inv P tt all ops w0 [] [] (Array.replicate ops.size false) [] [] [] φ fr h w act act act bk :=
  ⟨DC.none _, DC.none _, DC.none _, trivial, List.Pairwise.nil, List.nodup_nil, (fun p hp => by cases hp), (fun p hp => by cases hp), (fun p hp => by cases hp), fun p => by simp, List.nodup_nil, List.nodup_nil, (fun p hp => by cases hp), (fun p hp => by cases hp), (fun p hp => by cases hp), (fun p hp => by cases hp), (fun p hp => by cases hp), rfl, ⟨rfl, rfl, fun t => .inr rfl⟩, fun h => absurd rfl h, hd⟩

theorem schR_sound (ht : TTok P tt) {cf : CallF} (hcf : CFok P cf) {all : List Oper} {ops : Array Oper} (ha : ops.toList = all) (hsel' : Region.noSelect ops = true) {φ0 : PM} {h0 : Hp} {w0 : World} {r : Res} (hl : Lives r) : ∀ (m : Nat) (sch : List SI) (S : List (Nat × Nat)) (PR : List Nat) (L0 : Array Bool) (js pn ahs : List Nat), js.length + pn.length + 2 * sch.length = m →
    schedOk tt ops sch (allOf L0 js) S PR = true → ∀ {φ : PM} {fr : Fr} {h : Hp} {w : World} {a c b : Act} {bk : Nat → Nat}, Inv P tt all ops w0 S PR L0 js pn ahs φ fr h w a c b bk → FR φ fr b → Stp φ0 h0 w0 φ h w → schR tt cf all sch fr h = r →
    ∀ fuel, fuel + ahs.length = js.length + cntS sch → wpAnyR P .any ops (roT tt) (QR φ0 h0 w0 r) fuel (allOf L0 ahs) a w := by
  have hsel := Region.noSelect_spec hsel'
  intro m
  induction m using Nat.strongRecOn with
  | _ m IH =>
  intro sch S PR L0 js pn ahs hm hchk φ fr h w a c b bk I kf hs e fuel hfuel
  have hahs : ∀ p ∈ ahs, p ∈ PR := fun p hp => (I.pr p).2 (.inr hp)
  have hpn : ∀ p ∈ pn, p ∈ PR := fun p hp => (I.pr p).2 (.inl hp)
  have hPRC : ∀ p ∈ PR, (allOf L0 js).getD p true = false := fun p hp => by
    obtain ⟨o, _, _, _, hr, _⟩ := I.prA p hp
    exact (mem_ready.1 hr).1
  have hja : ∀ j ∈ js, j ∉ PR := fun j hj hp => listed_not (VP_listed I.vp j hj).1 (hPRC j hp)
  have hjL : ∀ j ∈ js, (allOf L0 ahs).getD j true = false := fun j hj => by
    rw [allOf_other ahs L0 j (fun h => hja j hj (hahs j h))]
    exact (VP_listed I.vp j hj).2
  have hahL : ∀ p ∈ ahs, (allOf L0 ahs).getD p false = true := fun p hp => allOf_self ahs L0 p hp (by have := in_range (hPRC p (hahs p hp)); rwa [allOf_size] at this)
  have hnpa : ∀ p ∈ pn, p ∉ ahs := fun p hp hq => (List.nodup_append.1 I.pnd).2.2 p hp p hq rfl
  have hlen : PR.length = pn.length + ahs.length := by
    have := ((List.perm_ext_iff_of_nodup I.prn I.pnd).2 fun p => by rw [I.pr p, List.mem_append]).length_eq
    rwa [List.length_append] at this
  have hcnt := schedOk_len sch _ _ _ hchk
  have hcd : c.defers = [] := by rw [I.fill.ag.2.1, I.df]
  -- a pending read, and one that makes cells and has come up or may come up: apart
  have hjp : ∀ j ∈ js, ∀ p ∈ PR, (p ∈ Region.ready .any ops (allOf L0 ahs) ∨ p ∈ ahs) → ∀ oj op, ops[j]? = some oj → ops[p]? = some op → oj.apart ops op = true := by
    intro j hj p hp hr oj op hoj hop
    obtain ⟨q, hq, rfl⟩ := I.sub j hj
    rcases I.prS p hp q hq with hanc | hap
    · exfalso
      have h1 : (allOf L0 ahs).getD q.1 false = true := by
        rcases hr with hr | hr
        · exact I.dcL.ready hr hanc
        · exact I.dcL.anc hanc (hahL p hr)
      exact listed_not h1 (hjL q.1 hj)
    · exact hap op oj hop hoj
  -- the states agree where an operation looks
  have hac : ∀ (o : Oper), (∀ p ∈ ahs, ∀ op, ops[p]? = some op → ∀ d, op.dst = some d → d ∉ o.looksAt ops) → ∀ t ∈ o.looksAt ops, a.tmps.getD t undef = c.tmps.getD t undef := by
    intro o hap t htl
    rcases I.ag.2.2 t with ⟨p, hp, op, hop, hd⟩ | h
    · exact absurd htl (hap p hp op hop t hd)
    · exact h.symm
  have hfb : ∀ {w1 : World} {c1 b1 : Act} (o : Oper), Fill P ops w1 js c1 b1 → (∀ j ∈ js, ∀ oj, ops[j]? = some oj → ∀ d, oj.dst = some d → d ∉ o.looksAt ops) → ∀ t ∈ o.looksAt ops, c1.tmps.getD t undef = b1.tmps.getD t undef := by
    intro w1 c1 b1 o hf hap t htl
    rcases hf.ag.2.2 t with ⟨j, hj, oj, hoj, hd⟩ | h
    · exact absurd htl (hap j hj oj hoj t hd)
    · exact h
  -- what waits for nothing but what is told of
  have hr0 : ∀ k, k ∈ Region.ready .any ops (allOf L0 ahs) → (allOf L0 js).getD k true = false ∨ k ∈ js → (∀ o, ops[k]? = some o → ∀ e ∈ o.after, Region.binds .any e = true → (allOf L0 js).getD e.on false = true) → k ∈ Region.ready .any ops L0 := by
    intro k hk hun hC
    obtain ⟨h0, o, ho, hall⟩ := mem_ready.1 hk
    refine mem_ready.2 ⟨allOf_un h0, o, ho, fun e he hb => ?_⟩
    have _ := hun
    rcases allOf_inv ahs L0 e.on (hall e he hb) with h1 | h1
    · exact h1
    · exact (listed_not (hC o ho e he hb) (hPRC e.on (hahs _ h1))).elim
  -- who may come up
  have class_ : ∀ i, i ∉ ahs → ∀ k, k ∈ Region.ready .any ops (allOf L0 ahs) → k ∈ js ∨ k ∈ pn ∨ k ∈ Region.ready .any ops (allOf (allOf L0 js) (PR.erase i)) := by
    intro i hi k hk
    by_cases h1 : k ∈ js
    · exact .inl h1
    by_cases h2 : k ∈ pn
    · exact .inr (.inl h2)
    right; right
    obtain ⟨h0, o, ho, hall⟩ := mem_ready.1 hk
    have h3 : k ∉ ahs := fun h => listed_not (hahL k h) h0
    have h4 : k ∉ PR := fun h => by rcases (I.pr k).1 h with h | h; exact h2 h; exact h3 h
    refine mem_ready.2 ⟨by rw [allOf_other (PR.erase i) _ k (fun h => h4 (List.mem_of_mem_erase h)), allOf_other js L0 k h1]; exact allOf_un h0, o, ho, fun e he hb => ?_⟩
    rcases allOf_inv ahs L0 e.on (hall e he hb) with h5 | h5
    · exact allOf_get (PR.erase i) _ _ _ (allOf_get js _ _ _ h5)
    · exact allOf_self (PR.erase i) _ e.on (I.prn.mem_erase_iff.2 ⟨fun e => hi (e ▸ h5), hahs _ h5⟩) (in_range (hPRC _ (hahs _ h5)))
  -- a pending read comes up
  have pend : ∀ j, j ∈ js → j ∈ Region.ready .any ops (allOf L0 ahs) → ∀ f, f + 1 + ahs.length = js.length + cntS sch → wpOpR P ops (roT tt) (QR φ0 h0 w0 r) j (wpAnyR P .any ops (roT tt) (QR φ0 h0 w0 r) f ((allOf L0 ahs).setIfInBounds j true)) a w := by
    intro j hj hr f hf
    have hrj : j ∈ Region.ready .any ops L0 := hr0 j hr (.inr hj) (fun o ho e he hb => I.dcC j o ho (VP_listed I.vp j hj).1 e he hb)
    obtain ⟨pre, post, rfl⟩ := List.append_of_mem hj
    have hnp : j ∉ pre := fun hh => (List.nodup_append.1 I.nd).2.2 j hh j (List.mem_cons_self ..) rfl
    obtain ⟨o, v, ho, hy, hf', hv'⟩ := Fill.take hsel I.dc hrj I.vp (fun q hq => (List.pairwise_append.1 I.pw).2.2 q hq j (List.mem_cons_self ..)) hnp I.fill
    have hap : ∀ p ∈ ahs, ∀ op, ops[p]? = some op → o.apart ops op = true := fun p hp op hop => hjp j hj p (hahs p hp) (.inr hp) o op ho hop
    have hag := hac o (fun p hp op hop d hd => (Oper.apart_spec (hap p hp op hop)).2.2 d hd)
    have hya : YieldsW P ops (fun w' => w' = w) o v a := hy.of_same (execOp_same (fun cs b => hsel j o cs b ho) hag) (wanted_same hag)
    have hC : allOf (L0.setIfInBounds j true) (pre ++ post) = allOf L0 (pre ++ j :: post) := by
      simp only [allOf, List.foldl_append, List.foldl_cons]
      congr 1
      exact allOf_comm j pre L0
    refine hya.wpOpR ho rfl ?_
    rw [← allOf_comm]
    refine IH ((pre ++ post).length + pn.length + 2 * sch.length) (by simp at hm ⊢; omega) sch S PR _ (pre ++ post) pn ahs rfl (by rw [hC]; exact hchk) (a := a.put o.dst v) (c := c.put o.dst v) (b := b) (bk := bk) ?_ kf hs e f (by simp at hf ⊢; omega)
    refine ⟨I.dc.set hrj, by rw [allOf_comm]; exact I.dcL.set hr, by rw [hC]; exact I.dcC, hv', I.pw.sublist (by simp), I.nd.sublist (by simp), I.sm, fun q hq => I.sub q ?_, I.so, I.pr, I.pnd, I.prn, ?_, I.prS, I.prP, ?_, I.inj, hf', I.ag.put _ _, fun hne q hq => I.re hne q ?_, I.df⟩
    · simp at hq ⊢; exact hq.imp id .inr
    · rw [hC]; exact I.prA
    · intro p hp
      obtain ⟨h1, h2, h3, h4⟩ := I.ah p hp
      refine ⟨h1, h2, h3, fun op cells T V hop hrun => ?_⟩
      obtain ⟨h5, h6⟩ := h4 op cells T V hop hrun
      refine ⟨h5, fun d hd hlt => ?_⟩
      rw [put_size] at hlt
      rw [put_getD, if_neg (fun hc => (Oper.apart_spec (hap p hp op hop)).2.1 d hc.1 hd)]
      exact h6 d hd hlt
    · simp at hq ⊢; exact hq.imp id .inr
  -- one that makes cells comes up ahead of its turn
  have allo : ∀ p, p ∈ pn → p ∈ Region.ready .any ops (allOf L0 ahs) → ∀ f, f + 1 + ahs.length = js.length + cntS sch → wpOpR P ops (roT tt) (QR φ0 h0 w0 r) p (wpAnyR P .any ops (roT tt) (QR φ0 h0 w0 r) f ((allOf L0 ahs).setIfInBounds p true)) a w := by
    intro p hp hr f hf
    obtain ⟨o, ho, hal, hg, hrC, hpo⟩ := I.prA p (hpn p hp)
    obtain ⟨cells, T, V, hrun⟩ := prepOk_sound (P := P) ht kf hal hpo
    have hne : ∀ q ∈ ahs, q ≠ p := fun q hq e => hnpa p hp (e ▸ hq)
    have h1 := hac o (fun q hq oq hoq d hd => (Oper.apart_spec (I.prP q (hahs q hq) p (hpn p hp) (hne q hq) oq o hoq ho)).1 d hd)
    have hjo : ∀ j ∈ js, ∀ oj, ops[j]? = some oj → ∀ d, oj.dst = some d → d ∉ o.looksAt ops := fun j hj oj hoj d hd => (Oper.apart_spec (hjp j hj p (hpn p hp) (.inl hr) oj o hoj ho)).1 d hd
    have h2 := hfb o I.fill hjo
    have hso := fun cs b => hsel p o cs b ho
    have hrunA : RunA P o a cells T V := hrun.same (execOp_same hso (fun t htl => ((h1 t htl).trans (h2 t htl)).symm))
    unfold wpOpR
    simp only [ho]
    have hwant : Region.wanted o (yielded ops a.tmps) = true := by unfold Region.wanted; rw [hg]
    rw [if_neg (by simp [roT, allocOp_read hal])]
    unfold wpOp
    simp only [ho, hwant, if_true]
    left
    unfold Oper.wp
    rw [hrunA w]
    show wpAnyR P .any ops (roT tt) (QR φ0 h0 w0 r) f ((allOf L0 ahs).setIfInBounds p true) (a.put o.dst (V w.heap.size)) { w with heap := w.heap.push (.cells cells T) }
    have hst : Stp φ h w φ h { w with heap := w.heap.push (.cells cells T) } := Stp.push hs.wr _
    have hPne : PR ≠ [] := fun h => by have := hpn p hp; rw [h] at this; cases this
    obtain ⟨b', hf', kfb⟩ := refill ht ha hsel hst.wr js c b kf I.fill.ag (fun j hj => by
      obtain ⟨q, hq, rfl⟩ := I.sub j hj
      obtain ⟨oj, h3, h4, h5⟩ := I.so q hq
      obtain ⟨oj', h6, h7⟩ := I.re hPne q.1 hj
      rw [h3] at h6; cases h6
      exact ⟨oj, h3, h4, h5, h7⟩) I.pw
    rw [← allOf_comm]
    have hLp : allOf (L0.setIfInBounds p true) ahs = allOf L0 (p :: ahs) := rfl
    rw [hLp]
    -- what an ahead one's operands hold, is as it was
    have hold : ∀ q ∈ ahs, ∀ oq, ops[q]? = some oq → execOp b'.eval oq = execOp b.eval oq := by
      intro q hq oq hoq
      have hjq : ∀ j ∈ js, ∀ oj, ops[j]? = some oj → ∀ d, oj.dst = some d → d ∉ oq.looksAt ops := fun j hj oj hoj d hd => (Oper.apart_spec (hjp j hj q (hahs q hq) (.inr hq) oj oq hoj hoq)).1 d hd
      exact execOp_same (fun cs b => hsel q oq cs b hoq) (fun t htl => ((hfb oq hf' hjq t htl).symm.trans (hfb oq I.fill hjq t htl)))
    refine IH (js.length + (pn.erase p).length + 2 * sch.length) (by have := List.length_erase_of_mem hp; have := List.length_pos_of_mem hp; omega) sch S PR L0 js (pn.erase p) (p :: ahs) rfl hchk (a := a.put o.dst (V w.heap.size)) (c := c) (b := b') (bk := fun x => if x = p then w.heap.size else bk x) ?_ kfb (hs.trans hst) e f (by simp; omega)
    have hpnn := (List.nodup_append.1 I.pnd).1
    refine ⟨I.dc, by rw [← hLp, allOf_comm]; exact I.dcL.set hr, I.dcC, I.vp, I.pw, I.nd, I.sm, I.sub, I.so, fun q => ?_, ?_, I.prn, I.prA, I.prS, I.prP, fun q hq => ?_, fun q hq q' hq' hbk => ?_, hf', ?_, I.re, by rw [← hf'.ag.2.1, hcd]⟩
    · rw [I.pr q, hpnn.mem_erase_iff, List.mem_cons]
      by_cases hqp : q = p
      · subst hqp; simp [hp]
      · simp [hqp]
    · refine List.nodup_append.2 ⟨hpnn.erase p, List.nodup_cons.2 ⟨hnpa p hp, (List.nodup_append.1 I.pnd).2.1⟩, fun x hx y hy hxy => ?_⟩
      subst hxy
      rw [hpnn.mem_erase_iff] at hx
      rcases List.mem_cons.1 hy with rfl | hy
      · exact hx.1 rfl
      · exact hnpa x hx.2 hy
    · rcases List.mem_cons.1 hq with rfl | hq
      · simp only [if_true]
        refine ⟨hs.fr.size, by simp, fun id q' hid hq' hbk => ?_, fun op cells' T' V' hop hrun' => ?_⟩
        · obtain ⟨ob, hob⟩ := Option.isSome_iff_exists.1 hid
          obtain ⟨p', hp', hor⟩ := hs.wr.obj id ob hob
          rw [hq'] at hp'; cases hp'
          have := hor.lt
          omega
        · rw [ho] at hop; cases hop
          have hrb : RunA P o b' cells T V := hrunA.same (execOp_same hso (fun t htl => (h1 t htl).trans (hfb o hf' hjo t htl)))
          obtain ⟨e1, e2, e3⟩ := hrb.det hrun'
          subst e1; subst e2
          refine ⟨Array.getElem?_push_size, fun d hd hlt => ?_⟩
          rw [put_size] at hlt
          rw [put_getD, if_pos ⟨hd, hlt⟩]
          exact V_at e3 _
      · have hqp := hne q hq
        simp only [hqp, if_false]
        obtain ⟨h3, h4, h5, h6⟩ := I.ah q hq
        refine ⟨h3, by simp; omega, h5, fun op cells' T' V' hop hrun' => ?_⟩
        obtain ⟨h7, h8⟩ := h6 op cells' T' V' hop (hrun'.same (hold q hq op hop))
        refine ⟨?_, fun d hd hlt => ?_⟩
        · show (w.heap.push _)[bk q]? = _
          rw [Array.getElem?_push, if_neg (by omega)]; exact h7
        · rw [put_size] at hlt
          rw [put_getD, if_neg (fun hc => (Oper.apart_spec (I.prP q (hahs q hq) p (hpn p hp) hqp op o hop ho)).2.1 d hd hc.1)]
          exact h8 d hd hlt
    · have key : ∀ x ∈ ahs, bk x ≠ w.heap.size := fun x hx => by have := (I.ah x hx).2.1; omega
      rcases List.mem_cons.1 hq with hq1 | hq1 <;> rcases List.mem_cons.1 hq' with hq2 | hq2
      · rw [hq1, hq2]
      · simp only [hq1, if_true, hne q' hq2, if_false] at hbk; exact absurd hbk.symm (key q' hq2)
      · simp only [hq2, if_true, hne q hq1, if_false] at hbk; exact absurd hbk (key q hq1)
      · simp only [hne q hq1, hne q' hq2, if_false] at hbk; exact I.inj q hq1 q' hq2 hbk
    · refine ⟨by rw [put_size]; exact I.ag.1, by rw [put_defers]; exact I.ag.2.1, fun t => ?_⟩
      rw [put_getD]
      by_cases hd : o.dst = some t
      · exact .inl ⟨p, List.mem_cons_self .., o, ho, hd⟩
      · rw [if_neg (fun hc => hd hc.1)]
        rcases I.ag.2.2 t with ⟨q, hq, oq, hoq, hdq⟩ | h3
        · exact .inl ⟨q, List.mem_cons_of_mem _ hq, oq, hoq, hdq⟩
        · exact .inr h3
  -- a first pending read may come up
  have first : js ≠ [] → Region.ready .any ops (allOf L0 ahs) ≠ [] := by
    intro hne he
    cases js with
    | nil => exact hne rfl
    | cons j js' =>
      have := ready_allOf (js := ahs) I.vp.1 (fun h => hja j (List.mem_cons_self ..) (hahs j h))
      rw [he] at this; cases this
  have firstC : ∀ k, k ∈ Region.ready .any ops (allOf L0 js) → k ∉ ahs → Region.ready .any ops (allOf L0 ahs) ≠ [] := by
    intro k hk hka he
    by_cases hne : js = []
    · subst hne
      have := ready_allOf (js := ahs) (show k ∈ Region.ready .any ops L0 from hk) hka
      rw [he] at this; cases this
    · exact first hne he
  cases sch with
  | nil =>
    simp only [schedOk, Bool.and_eq_true, List.isEmpty_iff] at hchk
    obtain ⟨hempty, hPR⟩ := hchk
    subst hPR
    have hpn0 : pn = [] := by cases pn with | nil => rfl | cons p _ => exact absurd (hpn p (List.mem_cons_self ..)) (by simp)
    have hah0 : ahs = [] := by cases ahs with | nil => rfl | cons p _ => exact absurd (hahs p (List.mem_cons_self ..)) (by simp)
    subst hpn0; subst hah0
    cases fuel with
    | zero =>
      have hjs0 : js = [] := by
        simp [cntS] at hfuel
        exact List.eq_nil_of_length_eq_zero hfuel.symm
      subst hjs0
      obtain rfl : c = b := I.fill
      replace e : Res.norm fr h = r := e
      subst e
      refine ⟨hempty, rfl, φ, kf.same I.ag.1.symm fun t => ?_, hs, ?_⟩
      · rcases I.ag.2.2 t with ⟨p, hp, _⟩ | h1
        · cases hp
        · exact h1.symm
      · rw [← I.ag.2.1]; exact hcd
    | succ f =>
      have hjs : js ≠ [] := fun h => by subst h; simp [cntS] at hfuel
      refine ⟨fun h0 => absurd h0 (first hjs), fun k hk => ?_⟩
      rcases class_ 0 (by simp) k hk with h1 | h1 | h1
      · exact pend k h1 hk f hfuel
      · cases h1
      · rw [show allOf (allOf L0 js) ([].erase 0) = allOf L0 js from rfl, hempty] at h1; cases h1
  | cons x sch' =>
    replace e : siR tt cf all (schR tt cf all sch') fr h x = r := e
    cases x with
    | t x => simp [schedOk] at hchk
    | s i re rea =>
      replace e : atR tt cf all (reR tt all re (paR tt all rea (schR tt cf all sch'))) fr h (nthF all i) = r := e
      rw [nthF_eq] at e
      cases ho : all[i]? with
      | none => rw [ho] at e; exact absurd e.symm (hl.ne _)
      | some o =>
        rw [ho] at e
        replace e : opR tt cf all o (reR tt all re (paR tt all rea (schR tt cf all sch'))) fr h = r := e
        have hoi : ops[i]? = some o := by rw [← Array.getElem?_toList, ha]; exact ho
        simp only [schedOk, hoi, Bool.and_eq_true, Bool.or_eq_true, List.all_eq_true, List.isEmpty_iff] at hchk
        obtain ⟨⟨⟨⟨⟨⟨hr, hro⟩, hself⟩, hS⟩, hP⟩, hre⟩, hchk'⟩ := hchk
        have hr : i ∈ Region.ready .any ops (allOf L0 js) := by simpa using hr
        obtain ⟨v, hy, fr', e', kf', hd'⟩ := opR_read ht ha kf hs.wr I.df hro e hl
        obtain ⟨e2, hreF⟩ := reR_inv hl e'
        obtain ⟨e3, hpaF⟩ := paR_inv hl e2
        have hy' : YieldsW P ops (fun w' => w' = w) o v b := by
          rcases hy with ⟨h1, h2⟩ | h1
          · exact .inl ⟨h1, fun w' hw' => h2 w' (.inr hw')⟩
          · exact .inr h1
        have hni : i ∉ js := fun hmem => listed_not (VP_listed I.vp i hmem).1 (mem_ready.1 hr).1
        have hniP : i ∉ PR := fun hmem => by
          obtain ⟨o', ho', hal, _⟩ := I.prA i hmem
          rw [hoi] at ho'; cases ho'
          rw [allocOp_read hal] at hro; cases hro
        have hC : allOf L0 (js ++ [i]) = (allOf L0 js).setIfInBounds i true := by simp [allOf]
        have hPap : ∀ p ∈ PR, ∀ op, ops[p]? = some op → op.apart ops o = true := fun p hp op hop => by
          obtain ⟨op', h1, h2⟩ := apB_spec (hP p hp)
          rw [hop] at h1; cases h1; exact h2
        refine IH ((js ++ [i]).length + pn.length + 2 * sch'.length) (by simp at hm ⊢; omega) sch' ((i, waits .any ops i 2) :: S) PR L0 (js ++ [i]) pn ahs rfl (by rw [hC]; exact hchk') (a := a) (c := c) (b := b.put o.dst v) (bk := bk) ?_ kf' hs e3 fuel (by simp [cntS] at hfuel ⊢; omega)
        refine ⟨I.dc, I.dcL, by rw [hC]; exact I.dcC.set hr, I.vp.snoc hr, ?_, ?_, ?_, ?_, ?_, I.pr, I.pnd, I.prn, ?_, ?_, I.prP, ?_, I.inj, I.fill.snoc hoi hy', I.ag, ?_, hd'⟩
        · refine List.pairwise_append.2 ⟨I.pw, by simp, fun r hr' j hj => ?_⟩
          obtain rfl : j = i := by simpa using hj
          intro or oj hor hoj
          rw [hoi] at hoj; cases hoj
          obtain ⟨p, hp, rfl⟩ := I.sub r hr'
          have := hS p hp
          unfold relB at this
          simp only [hor] at this
          by_cases hb : Nat.testBit p.2 j = true
          · rw [if_pos hb] at this
            rw [I.sm p hp] at hb
            exact .inl ⟨waits_spec 2 j hb, this⟩
          · rw [if_neg hb] at this; exact .inr this
        · exact List.nodup_append.2 ⟨I.nd, by simp, fun x hx y hy' => by
            obtain rfl : y = i := by simpa using hy'
            exact fun e => hni (e ▸ hx)⟩
        · intro p hp
          rcases List.mem_cons.1 hp with rfl | hp
          · rfl
          · exact I.sm p hp
        · intro j hj
          rcases List.mem_append.1 hj with hj | hj
          · obtain ⟨p, hp, e⟩ := I.sub j hj; exact ⟨p, List.mem_cons_of_mem _ hp, e⟩
          · obtain rfl : j = i := by simpa using hj
            exact ⟨_, List.mem_cons_self .., rfl⟩
        · intro p hp
          rcases List.mem_cons.1 hp with rfl | hp
          · exact ⟨o, hoi, hro, hself⟩
          · exact I.so p hp
        · intro p hp
          obtain ⟨op, h1, h2, h3, h4, h5⟩ := I.prA p hp
          refine ⟨op, h1, h2, h3, ?_, ?_⟩
          · rw [hC]; exact ready_mono h4 (fun e => hniP (e ▸ hp))
          · rcases hre with hre | ⟨_, hre⟩
            · rw [hre] at hp; cases hp
            · obtain ⟨op', h6, h7⟩ := hpaF p (by simpa using hre p hp)
              rw [← ha, Array.getElem?_toList, h1] at h6; cases h6
              exact h7
        · intro p hp q hq
          rcases List.mem_cons.1 hq with rfl | hq
          · exact .inr fun op r hop hr' => by rw [hoi] at hr'; cases hr'; exact apart_symm (hPap p hp op hop)
          · exact I.prS p hp q hq
        · intro p hp
          obtain ⟨h1, h2, h3, h4⟩ := I.ah p hp
          refine ⟨h1, h2, h3, fun op cells T V hop hrun => h4 op cells T V hop (hrun.same ?_)⟩
          exact execOp_put op (fun cs b => hsel p op cs b hop) b o.dst v (Oper.apart_spec (hPap p (hahs p hp) op hop)).2.2
        · intro hne j hj
          rcases hre with hre | ⟨⟨hre1, hre2⟩, _⟩
          · exact absurd hre hne
          · have hmem : j ∈ re := by
              rcases List.mem_append.1 hj with hj | hj
              · obtain ⟨p, hp, rfl⟩ := I.sub j hj; simpa using hre2 p hp
              · obtain rfl : j = i := by simpa using hj
                simpa using hre1
            obtain ⟨oj, h6, h7⟩ := hreF j hmem
            exact ⟨oj, by rw [← Array.getElem?_toList, ha]; exact h6, h7⟩
    | a i re =>
      replace e : paR tt all [i] (reR tt all re (schR tt cf all sch')) fr h = r := e
      obtain ⟨e2, hpaF⟩ := paR_inv hl e
      obtain ⟨e3, hreF⟩ := reR_inv hl e2
      obtain ⟨o, ho, hpo⟩ := hpaF i (List.mem_cons_self ..)
      have hoi : ops[i]? = some o := by rw [← Array.getElem?_toList, ha]; exact ho
      simp only [schedOk, hoi, Bool.and_eq_true, Bool.or_eq_true, List.all_eq_true, Bool.not_eq_true'] at hchk
      obtain ⟨⟨⟨⟨⟨⟨⟨hr, hal⟩, hg⟩, hnP⟩, hS⟩, hP⟩, hre⟩, hchk'⟩ := hchk
      have hr : i ∈ Region.ready .any ops (allOf L0 js) := by simpa using hr
      have hnP : i ∉ PR := by simpa using hnP
      have hg : o.guard = none := by simpa using hg
      have hPap : ∀ p ∈ PR, ∀ op, ops[p]? = some op → op.apart ops o = true := fun p hp op hop => by
        obtain ⟨op', h1, h2⟩ := apB_spec (hP p hp)
        rw [hop] at h1; cases h1; exact h2
      have hreJ : ∀ j ∈ js, ∃ oj, ops[j]? = some oj ∧ reOk tt all fr h oj = true := fun j hj => by
        obtain ⟨p, hp, rfl⟩ := I.sub j hj
        obtain ⟨oj, h6, h7⟩ := hreF p.1 (by simpa using hre p hp)
        exact ⟨oj, by rw [← Array.getElem?_toList, ha]; exact h6, h7⟩
      refine IH (js.length + (i :: pn).length + 2 * sch'.length) (by simp at hm ⊢; omega) sch' S (i :: PR) L0 js (i :: pn) ahs rfl hchk' (a := a) (c := c) (b := b) (bk := bk) ?_ kf hs e3 fuel (by simpa [cntS] using hfuel)
      refine ⟨I.dc, I.dcL, I.dcC, I.vp, I.pw, I.nd, I.sm, I.sub, I.so, fun p => ?_, ?_, List.nodup_cons.2 ⟨hnP, I.prn⟩, ?_, ?_, ?_, I.ah, I.inj, I.fill, I.ag, fun _ => hreJ, I.df⟩
      · rw [List.mem_cons, List.mem_cons, I.pr p, or_assoc]
      · exact List.nodup_cons.2 ⟨fun h => hnP ((I.pr i).2 (List.mem_append.1 h)), I.pnd⟩
      · intro p hp
        rcases List.mem_cons.1 hp with rfl | hp
        · exact ⟨o, hoi, hal, hg, hr, hpo⟩
        · exact I.prA p hp
      · intro p hp q hq
        rcases List.mem_cons.1 hp with rfl | hp
        · rcases hS q hq with hb | hb
          · rw [I.sm q hq] at hb; exact .inl (waits_spec 2 p hb)
          · obtain ⟨rr, h1, h2⟩ := apB_spec hb
            exact .inr fun op r' hop hr' => by rw [hoi] at hop; cases hop; rw [h1] at hr'; cases hr'; exact h2
        · exact I.prS p hp q hq
      · intro p hp q hq hpq op r' hop hr'
        rcases List.mem_cons.1 hp with hp1 | hp1 <;> rcases List.mem_cons.1 hq with hq1 | hq1
        · exact absurd (hp1.trans hq1.symm) hpq
        · subst hp1; rw [hoi] at hop; cases hop; exact apart_symm (hPap q hq1 r' hr')
        · subst hq1; rw [hoi] at hr'; cases hr'; exact hPap p hp1 op hop
        · exact I.prP p hp1 q hq1 hpq op r' hop hr'
    | e i re rea =>
      replace e : atR tt cf all (reR tt all re (paR tt all rea (schR tt cf all sch'))) fr h (nthF all i) = r := e
      rw [nthF_eq] at e
      cases ho : all[i]? with
      | none => rw [ho] at e; exact absurd e.symm (hl.ne _)
      | some o =>
        rw [ho] at e
        replace e : opR tt cf all o (reR tt all re (paR tt all rea (schR tt cf all sch'))) fr h = r := e
        have hoi : ops[i]? = some o := by rw [← Array.getElem?_toList, ha]; exact ho
        simp only [schedOk, hoi, Bool.and_eq_true, List.all_eq_true] at hchk
        obtain ⟨⟨⟨⟨hr, hS⟩, hready⟩, hP⟩, hchk'⟩ := hchk
        have hr : i ∈ Region.ready .any ops (allOf L0 js) := by simpa using hr
        have hni : i ∉ js := fun hmem => listed_not (VP_listed I.vp i hmem).1 (mem_ready.1 hr).1
        have hso := fun cs b => hsel i o cs b hoi
        have hPap : ∀ p ∈ PR.erase i, ∀ op, ops[p]? = some op → op.apart ops o = true := fun p hp op hop => by
          obtain ⟨op', h1, h2⟩ := apB_spec (hP p hp).1
          rw [hop] at h1; cases h1; exact h2
        -- all that is pending is apart from it, once it may come up (or has)
        have hlag : (i ∈ Region.ready .any ops (allOf L0 ahs) ∨ i ∈ ahs) → ∀ j ∈ js, ∃ oj, ops[j]? = some oj ∧ readOp tt oj.op = true ∧ selfOk ops oj = true ∧ oj.apart ops o = true ∧ j ∈ re := by
          intro hup j hj
          obtain ⟨p, hp, rfl⟩ := I.sub j hj
          obtain ⟨oj, hoj, h1, h2⟩ := I.so p hp
          have hb := hS p hp
          unfold lagB at hb
          simp only [Bool.or_eq_true, Bool.and_eq_true] at hb
          rcases hb with hb | ⟨hb1, hb2⟩
          · exfalso
            rw [I.sm p hp] at hb
            have h1 : (allOf L0 ahs).getD p.1 false = true := by
              rcases hup with hup | hup
              · exact I.dcL.ready hup (waits_spec 2 i hb)
              · exact I.dcL.anc (waits_spec 2 i hb) (hahL i hup)
            exact listed_not h1 (hjL p.1 hj)
          · obtain ⟨oj', h3, h4⟩ := apB_spec hb1
            rw [hoj] at h3; cases h3
            exact ⟨oj, hoj, h1, h2, h4, by simpa using hb2⟩
        have hri : i ∈ Region.ready .any ops (allOf L0 ahs) → i ∈ Region.ready .any ops L0 := fun h => hr0 i h (.inl (mem_ready.1 hr).1) (fun o' ho' e he hb => by
          obtain ⟨_, o2, ho2, hall⟩ := mem_ready.1 hr
          rw [ho2] at ho'; cases ho'
          exact hall e he hb)
        have hVP' : ∀ (js : List Nat) (L : Array Bool), VP .any ops L js → i ∉ js → VP .any ops (L.setIfInBounds i true) js := by
          intro js
          induction js with
          | nil => intro L _ _; trivial
          | cons q js ih =>
            intro L hv hn
            have hqk : q ≠ i := fun e => hn (by rw [e]; exact List.mem_cons_self ..)
            refine ⟨ready_mono hv.1 hqk, ?_⟩
            rw [Array.setIfInBounds_comm _ _ (Ne.symm hqk)]
            exact ih _ hv.2 (fun h => hn (List.mem_cons_of_mem _ h))
        -- facts about the rest that is looked at
        have hprep : ∀ {fr' : Fr} {h' : Hp}, (∀ p ∈ rea, ∃ o, all[p]? = some o ∧ prepOk tt fr' h' o = true) → ∀ p ∈ PR.erase i, ∃ op, ops[p]? = some op ∧ allocOp op.op = true ∧ op.guard = none ∧ p ∈ Region.ready .any ops (allOf (L0.setIfInBounds i true) js) ∧ prepOk tt fr' h' op = true := by
          intro fr' h' hpaF p hp
          have hpP := List.mem_of_mem_erase hp
          obtain ⟨op, h1, h2, h3, h4, h5⟩ := I.prA p hpP
          refine ⟨op, h1, h2, h3, ?_, ?_⟩
          · rw [allOf_comm]
            exact ready_mono h4 (fun e => by rw [e, I.prn.mem_erase_iff] at hp; exact hp.1 rfl)
          · obtain ⟨op', h6, h7⟩ := hpaF p (by simpa using (hP p hp).2)
            rw [← ha, Array.getElem?_toList, h1] at h6; cases h6
            exact h7
        by_cases hiP : i ∈ PR
        · -- its turn, of one that makes cells
          have hone : Region.ready .any ops (allOf (allOf L0 js) (PR.erase i)) = [i] := by simpa using hready
          by_cases hia : i ∈ ahs
          · -- it has come up: it is told of now
            obtain ⟨o', ho', hal, hg, _, _⟩ := I.prA i hiP
            rw [hoi] at ho'; cases ho'
            have hA := allocOp_sound (P := P) (o := o) (h := h) ht kf hal
            unfold opR at e
            rw [show gSt all fr o.guard = some true by rw [hg]; rfl] at e
            replace e : onR1 cf fr h o.dst (reR tt all re (paR tt all rea (schR tt cf all sch'))) (stepOp tt o.op fr h) = r := e
            cases hst : stepOp tt o.op fr h with
            | fail n => rw [hst] at e; exact absurd e.symm (hl.ne _)
            | call f args => rw [hst] at hA; exact hA.elim
            | or a b => rw [hst] at hA; exact hA.elim
            | v X h1 =>
              rw [hst] at e hA
              obtain ⟨x, mk, cells, T, V, rfl, rfl, hx, hrun, hmk⟩ := hA
              replace e : reR tt all re (paR tt all rea (schR tt cf all sch')) (putD o.dst (mk h.n) fr) (newBlk h x false false) = r := e
              obtain ⟨e2, hreF⟩ := reR_inv hl e
              obtain ⟨e3, hpaF⟩ := paR_inv hl e2
              obtain ⟨hge, hlt, hown, hfact⟩ := I.ah i hia
              obtain ⟨hblk, htmp⟩ := hfact o cells T V hoi hrun
              have hs' := hs.adopt hx hblk hown hge
              have hle : φ.le (φ.set h.n ⟨bk i, 0, cells.size⟩) := PM.le_set _ (hs.wr.fresh _ (Nat.le_refl _)).2
              have kf1 : FR (φ.set h.n ⟨bk i, 0, cells.size⟩) (putD o.dst (mk h.n) fr) (b.put o.dst (V (bk i))) := (kf.mono hle).putD _ (hmk _ _ _ (PM.set_same _ _ _))
              obtain ⟨b', hf', kfb⟩ := refill ht ha hsel hs'.wr js (c.put o.dst (V (bk i))) (b.put o.dst (V (bk i))) kf1 (I.fill.ag.put _ _) (fun j hj => by
                obtain ⟨oj, h1, h2, h3, h4, h5⟩ := hlag (.inr hia) j hj
                obtain ⟨oj', h6, h7⟩ := hreF j h5
                rw [← ha, Array.getElem?_toList, h1] at h6; cases h6
                exact ⟨oj, h1, h2, h3, h7⟩) I.pw
              have hL0i : i ∈ Region.ready .any ops L0 := by
                obtain ⟨h0, o2, ho2, hall⟩ := mem_ready.1 hr
                refine mem_ready.2 ⟨allOf_un h0, o2, ho2, fun e he hb => ?_⟩
                rcases allOf_inv ahs L0 e.on (I.dcL i o2 ho2 (hahL i hia) e he hb) with h5 | h5
                · exact h5
                · exact (listed_not (hall e he hb) (hPRC e.on (hahs _ h5))).elim
              have han := (List.nodup_append.1 I.pnd).2.1
              have hnpi : i ∉ pn := fun h => hnpa i h hia
              rw [← allOf_erase ahs L0 i hia]
              refine IH (js.length + pn.length + 2 * sch'.length) (by simp at hm ⊢; omega) sch' S (PR.erase i) _ js pn (ahs.erase i) rfl (by rw [allOf_comm]; exact hchk') (a := a) (c := c.put o.dst (V (bk i))) (b := b') (bk := bk) ?_ kfb hs' e3 fuel (by
                have h1 := List.length_erase_of_mem hia
                have h2 := List.length_pos_of_mem hia
                simp [cntS] at hfuel ⊢; omega)
              refine ⟨I.dc.set hL0i, by rw [allOf_erase ahs L0 i hia]; exact I.dcL, by rw [allOf_comm]; exact I.dcC.set hr, hVP' js L0 I.vp hni, I.pw, I.nd, I.sm, I.sub, I.so, fun p => ?_, ?_, I.prn.erase i, hprep hpaF, fun p hp => I.prS p (List.mem_of_mem_erase hp), fun p hp q hq => I.prP p (List.mem_of_mem_erase hp) q (List.mem_of_mem_erase hq), fun p hp => ?_, fun p hp q hq => I.inj p (List.mem_of_mem_erase hp) q (List.mem_of_mem_erase hq), hf', ?_, fun _ j hj => ?_, ?_⟩
              · rw [I.prn.mem_erase_iff, han.mem_erase_iff, I.pr p]
                constructor
                · rintro ⟨h1, h2 | h2⟩
                  · exact .inl h2
                  · exact .inr ⟨h1, h2⟩
                · rintro (h2 | ⟨h1, h2⟩)
                  · exact ⟨fun e => hnpi (e ▸ h2), .inl h2⟩
                  · exact ⟨h1, .inr h2⟩
              · refine List.nodup_append.2 ⟨(List.nodup_append.1 I.pnd).1, han.erase i, fun p hp q hq => (List.nodup_append.1 I.pnd).2.2 p hp q (List.mem_of_mem_erase hq)⟩
              · have hpa := List.mem_of_mem_erase hp
                have hpi : p ≠ i := fun e => by rw [e, han.mem_erase_iff] at hp; exact hp.1 rfl
                obtain ⟨h3, h4, h5, h6⟩ := I.ah p hpa
                refine ⟨h3, h4, fun id q hid hq hbk => ?_, fun op cells' T' V' hop hrun' => ?_⟩
                · by_cases hn : id = h.n
                  · subst hn
                    rw [PM.set_same] at hq; cases hq
                    exact hpi (I.inj p hpa i hia hbk.symm)
                  · rw [show (newBlk h x false false).t = setP (.cells (lenL x) (putL x 0 .E) false false) h.n h.t from rfl, getP_setP_ne _ _ hn] at hid
                    rw [PM.set_ne _ _ hn] at hq
                    exact h5 id q hid hq hbk
                · have hjq : ∀ j ∈ js, ∀ oj, ops[j]? = some oj → ∀ d, oj.dst = some d → d ∉ op.looksAt ops := fun j hj oj hoj d hd => (Oper.apart_spec (hjp j hj p (hahs p hpa) (.inr hpa) oj op hoj hop)).1 d hd
                  have hpap := I.prP p (hahs p hpa) i hiP hpi op o hop hoi
                  refine h6 op cells' T' V' hop (hrun'.same (execOp_same (ops := ops) (fun cs b => hsel p op cs b hop) fun t htl => ?_))
                  rw [← hfb op hf' hjq t htl, ← hfb op I.fill hjq t htl, put_getD, if_neg (fun hc => (Oper.apart_spec hpap).2.2 t hc.1 htl)]
              · refine ⟨by rw [put_size]; exact I.ag.1, by rw [put_defers]; exact I.ag.2.1, fun t => ?_⟩
                rw [put_getD]
                by_cases hd : o.dst = some t
                · right
                  by_cases hlt2 : t < c.tmps.size
                  · rw [if_pos ⟨hd, hlt2⟩, htmp t hd (by rw [← I.ag.1]; exact hlt2)]
                  · rw [if_neg (fun hc => hlt2 hc.2)]
                    have hge1 : c.tmps.size ≤ t := Nat.le_of_not_lt hlt2
                    have e1 : c.tmps.getD t undef = undef := by rw [Array.getD_eq_getD_getElem?, Array.getElem?_eq_none hge1]; rfl
                    have e2 : a.tmps.getD t undef = undef := by rw [Array.getD_eq_getD_getElem?, Array.getElem?_eq_none (by rw [← I.ag.1]; exact hge1)]; rfl
                    rw [e1, e2]
                · rw [if_neg (fun hc => hd hc.1)]
                  rcases I.ag.2.2 t with ⟨p, hp, op, hop, hdp⟩ | h3
                  · refine .inl ⟨p, han.mem_erase_iff.2 ⟨fun e => ?_, hp⟩, op, hop, hdp⟩
                    subst e; rw [hoi] at hop; cases hop; exact hd hdp
                  · exact .inr h3
              · obtain ⟨oj, h1, h2, h3, h4, h5⟩ := hlag (.inr hia) j hj
                obtain ⟨oj', h6, h7⟩ := hreF j h5
                exact ⟨oj', by rw [← Array.getElem?_toList, ha]; exact h6, h7⟩
              · rw [← hf'.ag.2.1, put_defers, hcd]
          · -- it has not: something comes up
            have hip : i ∈ pn := by rcases (I.pr i).1 hiP with h | h; exact h; exact absurd h hia
            have hpos := List.length_pos_of_mem hip
            cases fuel with
            | zero => exfalso; simp [cntS] at hfuel hcnt; omega
            | succ f =>
              refine ⟨fun h0 => absurd h0 (firstC i hr hia), fun k hk => ?_⟩
              rcases class_ i hia k hk with h1 | h1 | h1
              · exact pend k h1 hk f hfuel
              · exact allo k h1 hk f hfuel
              · rw [hone] at h1
                obtain rfl : k = i := by simpa using h1
                exact allo k hip hk f hfuel
        · -- an operation in its turn
          have hone : Region.ready .any ops (allOf (allOf L0 js) (PR.erase i)) = [i] := by simpa using hready
          have hPe : PR.erase i = PR := List.erase_of_not_mem hiP
          have hia : i ∉ ahs := fun h => hiP (hahs i h)
          cases fuel with
          | zero =>
            exfalso
            have := schedOk_len sch' _ _ _ hchk'
            rw [hPe] at this
            simp [cntS] at hfuel; omega
          | succ f =>
            refine ⟨fun h0 => absurd h0 (firstC i hr hia), fun k hk => ?_⟩
            rcases class_ i hia k hk with h1 | h1 | h1
            · exact pend k h1 hk f hfuel
            · exact allo k h1 hk f hfuel
            · rw [hone] at h1
              obtain rfl : k = i := by simpa using h1
              have hlag' := hlag (.inl hk)
              have hao := hac o (fun p hp op hop d hd => (Oper.apart_spec (hPap p (by rw [hPe]; exact hahs p hp) op hop)).1 d hd)
              have hbo := hfb o I.fill (fun j hj oj hoj d hd => by
                obtain ⟨oj', h2, _, _, h5, _⟩ := hlag' j hj
                rw [hoj] at h2; cases h2
                exact (Oper.apart_spec h5).1 d hd)
              have hab : ∀ t ∈ o.looksAt ops, a.tmps.getD t undef = b.tmps.getD t undef := fun t htl => (hao t htl).trans (hbo t htl)
              refine wpOpR_mono ?_ (opR_lag ht hcf ha kf hs.wr hoi (execOp_same hso hab) (wanted_same hab) e hl (QR φ0 h0 w0 r))
              rintro a' w' ⟨v, φ', fr', h', rfl, e', kf', hs'⟩
              obtain ⟨e2, hreF⟩ := reR_inv hl e'
              obtain ⟨e3, hpaF⟩ := paR_inv hl e2
              obtain ⟨b', hf', kfb⟩ := refill ht ha hsel hs'.wr js (c.put o.dst v) (b.put o.dst v) kf' (I.fill.ag.put _ _) (fun j hj => by
                obtain ⟨oj, h1, h2, h3, h4, h5⟩ := hlag' j hj
                obtain ⟨oj', h6, h7⟩ := hreF j h5
                rw [← ha, Array.getElem?_toList, h1] at h6; cases h6
                exact ⟨oj, h1, h2, h3, h7⟩) I.pw
              rw [← allOf_comm]
              rw [hPe] at hchk' hPap hprep
              refine IH (js.length + pn.length + 2 * sch'.length) (by simp at hm ⊢; omega) sch' S PR _ js pn ahs rfl (by rw [allOf_comm]; exact hchk') (a := a.put o.dst v) (c := c.put o.dst v) (b := b') (bk := bk) ?_ kfb (hs.trans hs') e3 f (by simp [cntS] at hfuel ⊢; omega)
              refine ⟨I.dc.set (hri hk), by rw [allOf_comm]; exact I.dcL.set hk, by rw [allOf_comm]; exact I.dcC.set hr, hVP' js L0 I.vp hni, I.pw, I.nd, I.sm, I.sub, I.so, I.pr, I.pnd, I.prn, hprep hpaF, I.prS, I.prP, fun p hp => ?_, I.inj, hf', I.ag.put _ _, fun _ j hj => ?_, by rw [← hf'.ag.2.1, put_defers, hcd]⟩
              · obtain ⟨h3, h4, h5, h6⟩ := I.ah p hp
                refine ⟨h3, Nat.lt_of_lt_of_le h4 hs'.fr.size, fun id q hid hq hbk => ?_, fun op cells T V hop hrun => ?_⟩
                · rcases hs'.orig id q hid hq with ⟨id2, q2, h7, h8, h9⟩ | h7
                  · exact h5 id2 q2 h7 h8 (h9.trans hbk)
                  · omega
                · have hjq : ∀ j ∈ js, ∀ oj, ops[j]? = some oj → ∀ d, oj.dst = some d → d ∉ op.looksAt ops := fun j hj oj hoj d hd => (Oper.apart_spec (hjp j hj p (hahs p hp) (.inr hp) oj op hoj hop)).1 d hd
                  have hpap := hPap p (hahs p hp) op hop
                  obtain ⟨h7, h8⟩ := h6 op cells T V hop (hrun.same (execOp_same (ops := ops) (fun cs b => hsel p op cs b hop) fun t htl => by
                    rw [← hfb op hf' hjq t htl, ← hfb op I.fill hjq t htl, put_getD, if_neg (fun hc => (Oper.apart_spec hpap).2.2 t hc.1 htl)]))
                  refine ⟨by rw [hs'.fr.block (bk p) h4 (fun id q hid hq => h5 id q hid.isSome hq)]; exact h7, fun d hd hlt => ?_⟩
                  rw [put_size] at hlt
                  rw [put_getD, if_neg (fun hc => (Oper.apart_spec hpap).2.1 d hd hc.1)]
                  exact h8 d hd hlt
              · obtain ⟨oj, h1, h2, h3, h4, h5⟩ := hlag' j hj
                obtain ⟨oj', h6, h7⟩ := hreF j h5
                exact ⟨oj', by rw [← Array.getElem?_toList, ha]; exact h6, h7⟩

/-! #### two branches, told of as one -/
theorem mergeN_inv {f1 f2 : Fr} {h1 h2 : Hp} {k : Fr → Hp → Res} {r : Res} (hl : Lives r) (e : mergeN h f1 h1 f2 h2 k = r) : (Nat.beq f1.n f2.n = true ∧ Nat.beq f1.sz f2.sz = true ∧ beqP h1.n h2.n = true) ∧ r = k (mergeF f1 f2) (mergeH h h1 h2) := by
  unfold mergeN at e
  cases c1 : Nat.beq f1.n f2.n <;> rw [c1] at e
  · exact absurd e.symm (hl.ne _)
  cases c2 : Nat.beq f1.sz f2.sz <;> rw [c2] at e
  · exact absurd e.symm (hl.ne _)
  cases c3 : beqP h1.n h2.n <;> rw [c3] at e
  · exact absurd e.symm (hl.ne _)
  exact ⟨⟨rfl, rfl, rfl⟩, e.symm⟩
theorem mergeR_left {x y r : Res} (hl : Lives r) (e : mergeR h x y = r) : Lives x := by
  cases x with
  | fail n => exact absurd e.symm (hl.ne n)
  | alt a b => exact absurd e.symm (hl.ne _)
  | _ => trivial
theorem mergeR_right {x y r : Res} (hl : Lives r) (e : mergeR h x y = r) : Lives y := by
  cases x with
  | fail m => exact absurd e.symm (hl.ne m)
  | alt a b => exact absurd e.symm (hl.ne _)
  | norm f g => cases y <;> first | exact absurd e.symm (hl.ne _) | trivial
  | exit i f g => cases y <;> first | exact absurd e.symm (hl.ne _) | trivial
  | ret f g => cases y <;> first | exact absurd e.symm (hl.ne _) | trivial
theorem Good.left {f1 f2 : Fr} {h1 h2 : Hp} {a' : Act} {w' : World} (kw : WR φ h w) (c : Nat.beq f1.n f2.n = true ∧ Nat.beq f1.sz f2.sz = true ∧ beqP h1.n h2.n = true) (g : Good φ h w f1 h1 a' w') : Good φ h w (mergeF f1 f2) (mergeH h h1 h2) a' w' :=
  let ⟨φ', k1, k2, k3⟩ := g
  ⟨φ', mergeF_left c.1 k1, merge_left kw k2, k3⟩
theorem Good.right {f1 f2 : Fr} {h1 h2 : Hp} {a' : Act} {w' : World} (kw : WR φ h w) (c : Nat.beq f1.n f2.n = true ∧ Nat.beq f1.sz f2.sz = true ∧ beqP h1.n h2.n = true) (g : Good φ h w f2 h2 a' w') : Good φ h w (mergeF f1 f2) (mergeH h h1 h2) a' w' :=
  let ⟨φ', k1, k2, k3⟩ := g
  ⟨φ', mergeF_right c.1 c.2.1 k1, merge_right c.2.2 kw k2, k3⟩
theorem mergeR_QL {x y r : Res} (kw : WR φ h w) (hl : Lives r) (e : mergeR h x y = r) {ex : Exit} {a' : Act} {w' : World} (q : QR φ h w x ex a' w') : QR φ h w r ex a' w' := by
  cases x with
  | fail => exact q.elim
  | alt => exact absurd e.symm (hl.ne _)
  | norm f1 h1 =>
    cases y <;> first | (exact absurd e.symm (hl.ne _)) | skip
    obtain ⟨c, rfl⟩ := mergeN_inv hl e
    exact ⟨q.1, q.2.left kw c⟩
  | exit i f1 h1 =>
    cases y <;> first | (exact absurd e.symm (hl.ne _)) | skip
    rename_i j f2 h2
    replace e : sel (Nat.beq i j) (mergeN h f1 h1 f2 h2 (.exit i)) (.fail 73) = r := e
    cases ci : Nat.beq i j <;> rw [ci] at e
    · exact absurd e.symm (hl.ne _)
    obtain ⟨c, rfl⟩ := mergeN_inv hl e
    exact ⟨q.1, q.2.left kw c⟩
  | ret f1 h1 =>
    cases y <;> first | (exact absurd e.symm (hl.ne _)) | skip
    obtain ⟨c, rfl⟩ := mergeN_inv hl e
    exact ⟨q.1, q.2.left kw c⟩
theorem mergeR_QR {x y r : Res} (kw : WR φ h w) (hl : Lives r) (e : mergeR h x y = r) {ex : Exit} {a' : Act} {w' : World} (q : QR φ h w y ex a' w') : QR φ h w r ex a' w' := by
  cases x with
  | fail => exact absurd e.symm (hl.ne _)
  | alt => exact absurd e.symm (hl.ne _)
  | norm f1 h1 =>
    cases y <;> first | (exact absurd e.symm (hl.ne _)) | skip
    obtain ⟨c, rfl⟩ := mergeN_inv hl e
    exact ⟨q.1, q.2.right kw c⟩
  | exit i f1 h1 =>
    cases y <;> first | (exact absurd e.symm (hl.ne _)) | skip
    rename_i j f2 h2
    replace e : sel (Nat.beq i j) (mergeN h f1 h1 f2 h2 (.exit i)) (.fail 73) = r := e
    cases ci : Nat.beq i j <;> rw [ci] at e
    · exact absurd e.symm (hl.ne _)
    obtain rfl := Nat.eq_of_beq_eq_true ci
    obtain ⟨c, rfl⟩ := mergeN_inv hl e
    exact ⟨q.1, q.2.right kw c⟩
  | ret f1 h1 =>
    cases y <;> first | (exact absurd e.symm (hl.ne _)) | skip
    obtain ⟨c, rfl⟩ := mergeN_inv hl e
    exact ⟨q.1, q.2.right kw c⟩

noncomputable def otB (ops : Array Oper) : OT → Array Bool → List Nat → Bool
  | .done, L, rs => rs.isEmpty && (Region.ready .any ops L).isEmpty
  | .stop, _, rs => rs.isEmpty
  | .br i sub alt, L, rs => match rs with
    | [] => false
    | j :: rs' => i == j && otB ops sub (L.setIfInBounds i true) (Region.ready .any ops (L.setIfInBounds i true)) && otB ops alt L rs'
def otD : OT → Nat
  | .br _ sub alt => max (otD sub + 1) (otD alt)
  | _ => 0

/-- every order, one beside the other -/
theorem otR_sound (ht : TTok P tt) {cf : CallF} (hcf : CFok P cf) {all : List Oper} {ops : Array Oper} (ha : ops.toList = all) : ∀ (x : OT) (L : Array Bool) (rs : List Nat) (fuel : Nat), otB ops x L rs = true → otD x ≤ fuel →
    ∀ {φ : PM} {fr : Fr} {h : Hp} {w : World} {act : Act} {r : Res}, FR φ fr act → WR φ h w → act.defers = [] → otR tt cf all x fr h = r → Lives r →
    (rs = Region.ready .any ops L → wpAny P .any ops (QR φ h w r) fuel L act w) ∧ ∀ i ∈ rs, ∃ f, fuel = f + 1 ∧ wpOp P ops (QR φ h w r) i (wpAny P .any ops (QR φ h w r) f (L.setIfInBounds i true)) act w := by
  intro x
  induction x with
  | done =>
    intro L rs fuel hb hd φ fr h w act r kf kw hdf e hl
    simp only [otB, Bool.and_eq_true, List.isEmpty_iff] at hb
    obtain ⟨rfl, hr⟩ := hb
    replace e : Res.norm fr h = r := e
    subst e
    have q : QR φ h w (.norm fr h) .normal act w := ⟨rfl, φ, kf, Stp.refl kw, hdf⟩
    refine ⟨fun _ => ?_, fun i hi => by cases hi⟩
    cases fuel with
    | zero => exact ⟨hr, q⟩
    | succ f => exact ⟨fun _ => q, fun i hi => by rw [hr] at hi; cases hi⟩
  | stop =>
    intro L rs fuel hb hd φ fr h w act r kf kw hdf e hl
    exact absurd e.symm (hl.ne _)
  | br i sub alt ihs iha =>
    intro L rs fuel hb hd φ fr h w act r kf kw hdf e hl
    cases rs with
    | nil => simp [otB] at hb
    | cons j rs' =>
      simp only [otB, Bool.and_eq_true, beq_iff_eq] at hb
      obtain ⟨⟨rfl, hbs⟩, hba⟩ := hb
      have hd' : otD sub + 1 ≤ fuel ∧ otD alt ≤ fuel := by simp only [otD] at hd; omega
      obtain ⟨f, rfl⟩ : ∃ f, fuel = f + 1 := ⟨fuel - 1, by omega⟩
      -- the first one of these
      have first : ∀ x0, atR tt cf all (otR tt cf all sub) fr h (nthF all i) = x0 → Lives x0 → (∀ {ex : Exit} {a' : Act} {w' : World}, QR φ h w x0 ex a' w' → QR φ h w r ex a' w') →
          wpOp P ops (QR φ h w r) i (wpAny P .any ops (QR φ h w r) f (L.setIfInBounds i true)) act w := by
        intro x0 e0 hl0 hq
        rw [nthF_eq] at e0
        cases ho : all[i]? with
        | none => rw [ho] at e0; exact absurd e0.symm (hl0.ne _)
        | some o =>
          rw [ho] at e0
          replace e0 : opR tt cf all o (otR tt cf all sub) fr h = x0 := e0
          have hoi : ops[i]? = some o := by rw [← Array.getElem?_toList, ha]; exact ho
          have h1 := opR_sound ht hcf ha kf kw hdf e0 hl0 (QR φ h w r)
          have key : ∀ a' w', Nxt φ h w (otR tt cf all sub) x0 a' w' → wpAny P .any ops (QR φ h w r) f (L.setIfInBounds i true) a' w' := by
            rintro a' w' ⟨φ', fr', h', e', kf', hs', hd''⟩
            exact wpAny_monoQ (fun ex a2 w2 q => hq (q.trans hs')) _ _ _ _ ((ihs _ _ f hbs (by omega) kf' hs'.wr hd'' e' hl0).1 rfl)
          unfold wpOp
          simp only [hoi]
          cases hw : Region.wanted o (yielded ops act.tmps) with
          | true => rw [hw] at h1; exact .inl (Oper.wp_mono key h1)
          | false => rw [hw] at h1; exact key _ _ h1
      -- all of these
      have both : ∀ k ∈ i :: rs', wpOp P ops (QR φ h w r) k (wpAny P .any ops (QR φ h w r) f (L.setIfInBounds k true)) act w := by
        replace e : sel (isStop alt) (atR tt cf all (otR tt cf all sub) fr h (nthF all i)) (mergeR h (atR tt cf all (otR tt cf all sub) fr h (nthF all i)) (otR tt cf all alt fr h)) = r := e
        cases hs : isStop alt with
        | true =>
          rw [hs] at e
          cases alt <;> first | (cases hs; done) | skip
          have : rs' = [] := by simpa [otB] using hba
          subst this
          intro k hk
          obtain rfl : k = i := by simpa using hk
          exact first r e hl id
        | false =>
          rw [hs] at e
          replace e : mergeR h (atR tt cf all (otR tt cf all sub) fr h (nthF all i)) (otR tt cf all alt fr h) = r := e
          intro k hk
          rcases List.mem_cons.1 hk with rfl | hk
          · exact first _ rfl (mergeR_left hl e) fun q => mergeR_QL kw hl e q
          · obtain ⟨f', hf', hh⟩ := (iha L rs' (f + 1) hba hd'.2 kf kw hdf rfl (mergeR_right hl e)).2 k hk
            obtain rfl : f' = f := by omega
            exact wpOp_mono (fun a' w' hh => wpAny_monoQ (fun _ _ _ q => mergeR_QR kw hl e q) _ _ _ _ hh) (wpOp_monoQ (fun _ _ _ q => mergeR_QR kw hl e q) hh)
      refine ⟨fun hr => ⟨fun h0 => ?_, fun k hk => both k (by rw [hr]; exact hk)⟩, fun k hk => ⟨f, rfl, both k hk⟩⟩
      rw [h0] at hr; cases hr

noncomputable def schedC (tt : TT) (sch : Tr (List SI)) : Code → Bool
  | .region id ops true => match getP (pt id) sch with
    | none => true
    | some [.t x] => otB ops x (Array.replicate ops.size false) (Region.ready .any ops (Array.replicate ops.size false)) && Nat.ble (otD x) ops.size
    | some l => cntS l == ops.size && Region.noSelect ops && schedOk tt ops l (Array.replicate ops.size false) [] []
  | .seq a b => schedC tt sch a && schedC tt sch b
  | .cond _ a b => schedC tt sch a && schedC tt sch b
  | .block _ c => schedC tt sch c
  | .loop c => schedC tt sch c
  | _ => true

theorem rounds_monoQ {c : Code} {Q Q' : Exit → Act → World → Prop} (h : ∀ e a w, Q e a w → Q' e a w) : ∀ (n : Nat) (a : Act) (w : World), Code.rounds P c Q n a w → Code.rounds P c Q' n a w
  | 0, _, _, k => k.elim
  | n + 1, a, w, k => by
    rw [rounds_succ] at k ⊢
    refine wp_mono k fun e a w k => ?_
    cases e <;> first | exact rounds_monoQ h n _ _ k | exact h _ _ _ k
theorem thenR_lives {k : Fr → Hp → Res} : ∀ {x : Res}, Lives (thenR k x) → Lives x
  | .fail _, h => h
  | .norm _ _, _ => trivial
  | .exit _ _ _, _ => trivial
  | .ret _ _, _ => trivial
  | .alt _ _, h => ⟨thenR_lives h.1, thenR_lives h.2⟩
theorem blockR_lives {id : Nat} : ∀ {x : Res}, Lives (blockR id x) → Lives x
  | .fail _, h => h
  | .norm _ _, _ => trivial
  | .exit _ _ _, _ => trivial
  | .ret _ _, _ => trivial
  | .alt _ _, h => ⟨blockR_lives h.1, blockR_lives h.2⟩
/-- one end after the other -/
theorem thenR_sound {k : Fr → Hp → Res} {φ1 : PM} {h1 : Hp} {w1 : World} {C : Res → Act → World → Prop} (hC : ∀ {x r : Res} {a : Act} {w : World}, Sub x r → C x a w → C r a w)
    (hk : ∀ {r : Res} {fr2 : Fr} {h2 : Hp} {a : Act} {w2 : World} {φ2 : PM}, FR φ2 fr2 a → Stp φ1 h1 w1 φ2 h2 w2 → a.defers = [] → k fr2 h2 = r → Lives r → C r a w2) {D : Res → Exit → Act → World → Prop} (hD : ∀ {x r : Res} {e : Exit} {a : Act} {w : World}, Sub x r → D x e a w → D r e a w)
    (hq : ∀ {r : Res} {e : Exit} {a : Act} {w2 : World}, QR φ1 h1 w1 r e a w2 → D r e a w2) :
    ∀ (x : Res) {r : Res} {e1 : Exit} {a1 : Act} {w2 : World}, QR φ1 h1 w1 x e1 a1 w2 → thenR k x = r → Lives r → Exit.then (C r) (D r) e1 a1 w2 := by
  intro x
  induction x with
  | fail n => intro r e1 a1 w2 q e hl; exact q.elim
  | norm fr2 h2 =>
    intro r e1 a1 w2 q e hl
    obtain ⟨rfl, φ2, kf2, hs2, hd2⟩ := q
    exact hk kf2 hs2 hd2 e hl
  | exit id fr2 h2 => intro r e1 a1 w2 q e hl; subst e; obtain ⟨rfl, g⟩ := q; exact hq (r := .exit id fr2 h2) ⟨rfl, g⟩
  | ret fr2 h2 => intro r e1 a1 w2 q e hl; subst e; obtain ⟨rfl, g⟩ := q; exact hq (r := .ret fr2 h2) ⟨rfl, g⟩
  | alt a b ia ib =>
    intro r e1 a1 w2 q e hl
    replace e : Res.alt (thenR k a) (thenR k b) = r := e
    subst e
    have lift : ∀ {x r : Res}, Sub x r → Exit.then (C x) (D x) e1 a1 w2 → Exit.then (C r) (D r) e1 a1 w2 := by
      intro x r s h
      cases e1 <;> first | exact hC s h | exact hD s h
    rcases q with q | q
    · exact lift (.left (.refl _)) (ia q rfl hl.1)
    · exact lift (.right (.refl _)) (ib q rfl hl.2)
theorem blockR_sound {id : Nat} {φ1 : PM} {h1 : Hp} {w1 : World} : ∀ (x : Res) {r : Res} {e1 : Exit} {a1 : Act} {w2 : World}, QR φ1 h1 w1 x e1 a1 w2 → blockR id x = r → Exit.inBlock id (QR φ1 h1 w1 r) e1 a1 w2 := by
  intro x
  induction x with
  | fail n => intro r e1 a1 w2 q e; exact q.elim
  | norm fr1 h1 => intro r e1 a1 w2 q e; obtain ⟨rfl, g⟩ := q; subst e; exact ⟨rfl, g⟩
  | exit id' fr1 h1 =>
    intro r e1 a1 w2 q e
    obtain ⟨rfl, g⟩ := q
    replace e : sel (Nat.beq id' id) (.norm fr1 h1) (.exit id' fr1 h1) = r := e
    rw [sel_ite] at e
    by_cases hid : id' = id
    · subst hid
      rw [if_pos (Nat.beq_refl _)] at e
      subst e
      simp only [Exit.inBlock, if_true]
      exact ⟨rfl, g⟩
    · rw [if_neg (fun h => hid (Nat.eq_of_beq_eq_true h))] at e
      subst e
      simp only [Exit.inBlock, hid, if_false]
      exact ⟨rfl, g⟩
  | ret fr1 h1 => intro r e1 a1 w2 q e; obtain ⟨rfl, g⟩ := q; subst e; exact ⟨rfl, g⟩
  | alt a b ia ib =>
    intro r e1 a1 w2 q e
    replace e : Res.alt (blockR id a) (blockR id b) = r := e
    subst e
    have lift : ∀ {x r : Res}, Sub x r → Exit.inBlock id (QR φ1 h1 w1 x) e1 a1 w2 → Exit.inBlock id (QR φ1 h1 w1 r) e1 a1 w2 := by
      intro x r s h
      cases e1 <;> first | exact QR.sub s h | (simp only [Exit.inBlock] at h ⊢; split at h <;> rename_i hh <;> simp only [hh, if_true, if_false] <;> exact QR.sub s h)
    rcases q with q | q
    · exact lift (.left (.refl _)) (ia q rfl)
    · exact lift (.right (.refl _)) (ib q rfl)

/-! #### code -/
theorem codeR_sound (ht : TTok P tt) (hm : P.follows .mixedOrders = true) {cf : CallF} (hcf : CFok P cf) {sch : Tr (List SI)} : ∀ (c : Code), schedC tt sch c = true →
    ∀ {φ : PM} {fr : Fr} {h : Hp} {w : World} {act : Act} {r : Res}, FR φ fr act → WR φ h w → act.defers = [] → codeR tt cf sch c fr h = r → Lives r → c.wp P (QR φ h w r) act w := by
  intro c
  induction c with
  | skip => intro _ φ fr h w act r kf kw hd e hl; subst e; exact wp_skip ⟨rfl, φ, kf, Stp.refl kw, hd⟩
  | region id ops draw =>
    intro hc φ fr h w act r kf kw hd e hl
    cases draw with
    | false =>
      replace e : opsR tt cf ops.toList ops.toList (clrF fr) h = r := e
      have := opsR_sound ht hcf rfl ops.toList 0 (fun i => by simp) hl kf.clr (Stp.refl kw) hd e
      refine wp_region ?_
      rw [List.range_eq_range']
      simpa using this
    | true =>
      replace e : drawR tt cf sch id ops.toList (clrF fr) h = r := e
      unfold drawR at e
      cases hs : getP (pt id) sch with
      | none => rw [hs] at e; exact absurd e.symm (hl.ne _)
      | some l =>
        rw [hs] at e
        replace e : schR tt cf ops.toList l (clrF fr) h = r := e
        have hst : Stp φ h w φ h { w with drawn := w.drawn + 1 } := Stp.drew kw
        by_cases hot : ∃ x, l = [.t x]
        · obtain ⟨x, rfl⟩ := hot
          simp only [schedC, hs, Bool.and_eq_true] at hc
          replace e : andR .norm (otR tt cf ops.toList x (clrF fr) h) = r := e
          have hlx : Lives (otR tt cf ops.toList x (clrF fr) h) := by
            cases hot : otR tt cf ops.toList x (clrF fr) h <;> rw [hot] at e <;> first | exact absurd e.symm (hl.ne _) | trivial
          have := (otR_sound ht hcf rfl x _ _ ops.size hc.1 (Nat.le_of_ble_eq_true hc.2) kf.clr hst.wr hd rfl hlx).1 rfl
          refine wp_region_any hm (wpAny_monoQ (fun ex a' w' q => ?_) _ _ _ _ this)
          replace q := q.trans hst
          cases hr : otR tt cf ops.toList x (clrF fr) h <;> rw [hr] at e q <;> first | (exact absurd e.symm (hl.ne _)) | skip
          subst e; exact q
        have hc : (cntS l == ops.size && Region.noSelect ops && schedOk tt ops l (Array.replicate ops.size false) [] []) = true := by
          have := hc
          simp only [schedC, hs] at this
          split at this
          · rename_i hx; cases hx
          · rename_i x hx; cases hx; exact absurd ⟨_, rfl⟩ hot
          · rename_i l' _ hx; cases hx; exact this
        simp only [Bool.and_eq_true] at hc
        obtain ⟨⟨hlen, hsel⟩, hok⟩ := hc
        have hlen : cntS l = ops.size := by simpa using hlen
        have := schR_sound ht hcf rfl hsel hl _ l [] [] (Array.replicate ops.size false) [] [] [] rfl hok (Inv.start hd (fun _ => 0)) kf.clr hst e (cntS l) (by simp)
        refine wp_region_any hm ?_
        simp only [allOf, List.foldl_nil] at this
        rw [hlen] at this
        exact wpAny_of_R _ _ _ _ this
  | seq x y ihx ihy =>
    intro hc φ fr h w act r kf kw hd e hl
    simp only [schedC, Bool.and_eq_true] at hc
    replace e : thenR (codeR tt cf sch y) (codeR tt cf sch x fr h) = r := e
    have hlx : Lives (codeR tt cf sch x fr h) := thenR_lives (e ▸ hl)
    refine wp_seq (wp_mono (ihx hc.1 kf kw hd rfl hlx) ?_)
    intro e1 a1 w1 q
    exact thenR_sound (k := codeR tt cf sch y) (C := fun r a w2 => y.wp P (QR φ h w r) a w2) (D := fun r e a w2 => QR φ h w r e a w2) (fun s hh => wp_mono hh fun _ _ _ q => q.sub s)
      (fun kf1 hs1 hd1 e hl => wp_mono (ihy hc.2 kf1 hs1.wr hd1 e hl) fun _ _ _ q => q.trans hs1) (fun s q => QR.sub s q) id _ q e hl
  | cond c x y ihx ihy =>
    intro hc φ fr h w act r kf kw hd e hl
    simp only [schedC, Bool.and_eq_true] at hc
    replace e : condR (codeR tt cf sch x) (codeR tt cf sch y) c fr h = r := e
    have hcv := ev_sound kf c
    unfold condR at e
    cases hv : ev c fr <;> rw [hv] at e <;> first | (exact absurd e.symm (hl.ne _)) | skip
    case bool t =>
      rw [hv] at hcv
      have hcv : act.eval c = .bool t := hcv
      refine wp_cond hcv ?_
      cases t with
      | true => exact ihx hc.1 kf kw hd e hl
      | false => exact ihy hc.2 kf kw hd e hl
    case nil =>
      rw [hv] at hcv
      obtain ⟨t, hcv⟩ := hcv
      replace e : mergeR h (codeR tt cf sch x fr h) (codeR tt cf sch y fr h) = r := e
      refine wp_cond hcv ?_
      cases t with
      | true =>
        have hlx : Lives (codeR tt cf sch x fr h) := mergeR_left hl e
        exact wp_mono (ihx hc.1 kf kw hd rfl hlx) fun _ _ _ q => mergeR_QL kw hl e q
      | false =>
        have hly : Lives (codeR tt cf sch y fr h) := mergeR_right hl e
        exact wp_mono (ihy hc.2 kf kw hd rfl hly) fun _ _ _ q => mergeR_QR kw hl e q
  | block id x ih =>
    intro hc φ fr h w act r kf kw hd e hl
    replace e : blockR id (codeR tt cf sch x fr h) = r := e
    have hlx : Lives (codeR tt cf sch x fr h) := blockR_lives (id := id) (e ▸ hl)
    exact wp_block (wp_mono (ih hc kf kw hd rfl hlx) fun e1 a1 w1 q => blockR_sound _ q e)
  | loop x ih =>
    intro hc φ fr h w act r kf kw hd e hl
    replace e : loopR (codeR tt cf sch x) 1000000 fr h = r := e
    refine wp_loop_rounds 1000000 ?_
    generalize 1000000 = n at e ⊢
    -- every round
    have key : ∀ (n : Nat) {φ1 : PM} {fr1 : Fr} {h1 : Hp} {w1 : World} {a1 : Act} {r : Res}, FR φ1 fr1 a1 → Stp φ h w φ1 h1 w1 → a1.defers = [] → loopR (codeR tt cf sch x) n fr1 h1 = r → Lives r → Code.rounds P x (QR φ h w r) n a1 w1 := by
      intro n
      induction n with
      | zero => intro φ1 fr1 h1 w1 a1 r _ _ _ e hl; exact absurd e.symm (hl.ne _)
      | succ n ihn =>
        intro φ1 fr1 h1 w1 a1 r kf1 hs1 hd1 e hl
        replace e : thenR (loopR (codeR tt cf sch x) n) (codeR tt cf sch x fr1 h1) = r := e
        have hlx : Lives (codeR tt cf sch x fr1 h1) := thenR_lives (e ▸ hl)
        rw [rounds_succ]
        refine wp_mono (ih hc kf1 hs1.wr hd1 rfl hlx) ?_
        intro e2 a2 w2 q
        exact thenR_sound (k := loopR (codeR tt cf sch x) n) (C := fun r a w2 => Code.rounds P x (QR φ h w r) n a w2) (D := fun r e a w2 => QR φ h w r e a w2) (fun s hh => rounds_monoQ (fun _ _ _ q => QR.sub s q) _ _ _ hh)
          (fun kf2 hs2 hd2 e hl => ihn kf2 (hs1.trans hs2) hd2 e hl) (fun s q => QR.sub s q) (fun q => q.trans hs1) _ q e hl
    exact key n kf (Stp.refl kw) hd e hl
  | exit id => intro _ φ fr h w act r kf kw hd e hl; subst e; exact wp_exit ⟨rfl, φ, kf, Stp.refl kw, hd⟩
  | label l => intro _ φ fr h w act r kf kw hd e hl; subst e; exact wp_label ⟨rfl, φ, kf, Stp.refl kw, hd⟩
  | ret => intro _ φ fr h w act r kf kw hd e hl; subst e; exact wp_ret ⟨rfl, φ, kf, Stp.refl kw, hd⟩
  | rangeFunc => intro _ φ fr h w act r kf kw hd e hl; exact absurd e.symm (hl.ne _)
  | scope => intro _ φ fr h w act r kf kw hd e hl; exact absurd e.symm (hl.ne _)
  | goto => intro _ φ fr h w act r kf kw hd e hl; exact absurd e.symm (hl.ne _)
  | refuse => intro _ φ fr h w act r kf kw hd e hl; exact absurd e.symm (hl.ne _)
end
end Go.Exe
