/- A part of an executor of the model over abstract values, and what it tells of the calls. -/
import Derived.Test.YtbaaogkpkgffdaaGreatDoorX1
import Derived.Calls
import Derived.Orders
import Derived.LoopN
import Derived.Below
namespace Go.Exe
open Go
set_option linter.unusedSectionVars false

/-! ### abstract values -/
inductive AV where
  | bool (b : Bool)
  | int (k : IntKind) (n : Int)
  | str (n a : Nat)
  | ptr (i : Pt) (o : Nat)
  | nilp
  | sl (i : Pt) (o len cap es : Nat) (op : Bool)
  | nils
  | map (i : Pt)
  | nilm
  | fn (f : Nat) (caps : AV)
  | nilf
  | agg (cs : AV)
  | tup (cs : AV)
  | unk
  | nil
  | cons (a b : AV)
  | esl

deriving instance DecidableEq for AV

/-- a value of one cell -/
def one1 : Value → Bool
  | .agg _ | .tuple _ => false
  | _ => true
/-- the values that symbols stand for -/
class Env where
  val : AV → Value
  one : ∀ a, one1 (val a) = true
  tyI : ∀ k i, ∃ n, val (.int k i) = .int k n
  tyS : ∀ n a, ∃ s, val (.str n a) = .string s
  tyB : ∀ f c, ∃ b, val (.fn f c) = .bool b
variable [Env]

/-- where an abstract block lies: block, first cell, one past the last cell -/
structure PB where
  blk : Nat
  off : Nat
  top : Nat

abbrev PM := Pt → Option PB

def VRp (φ : PM) : AV → (Value → Prop) × (List Value → Prop)
  | .bool b => (fun v => v = .bool b, fun _ => False)
  | .int k n => (fun v => v = .int k n, fun _ => False)
  | .str n a => (fun v => v = .string (strB n a) ∧ a < 256 ^ n, fun _ => False)
  | .ptr i o => (fun v => ∃ p, φ i = some p ∧ v = .pointer (some ⟨p.blk, p.off + o, none⟩), fun _ => False)
  | .nilp => (fun v => v = .pointer none, fun _ => False)
  | .sl i o len cap es op => (fun v => ∃ p c, φ i = some p ∧ v = .slice (some ⟨p.blk, p.off + o, none⟩) len c ∧ cap ≤ c ∧ (op = false → c = cap) ∧ (op = true → p.off + o + c * es ≤ p.top), fun _ => False)
  | .nils => (fun v => v = .slice none 0 0, fun _ => False)
  | .map i => (fun v => ∃ p, φ i = some p ∧ v = .map (some p.blk), fun _ => False)
  | .nilm => (fun v => v = .map none, fun _ => False)
  | .fn f caps => (fun v => ∃ vs, v = .func (.func f) #[] vs ∧ (VRp φ caps).2 vs.toList, fun _ => False)
  | .nilf => (fun v => v = .nilFunc, fun _ => False)
  | .agg cs => (fun v => ∃ vs, v = .agg vs ∧ (VRp φ cs).2 vs.toList, fun _ => False)
  | .tup cs => (fun v => ∃ vs, v = .tuple vs ∧ (VRp φ cs).2 vs.toList, fun _ => False)
  | .unk => (fun _ => True, fun _ => False)
  | .esl => (fun v => ∃ a c, v = .slice (some a) 0 c, fun _ => False)
  | .nil => (fun v => ∃ b, v = .bool b, fun l => l = [])
  | .cons a b => (fun v => v = Env.val a, fun l => ∃ v vs, l = v :: vs ∧ (VRp φ a).1 v ∧ (VRp φ b).2 vs)

/-- an abstract value tells of a value -/
def VR (φ : PM) (a : AV) (v : Value) : Prop := (VRp φ a).1 v
/-- an abstract list tells of a list of values -/
def VL (φ : PM) (a : AV) (l : List Value) : Prop := (VRp φ a).2 l

def PM.le (φ φ' : PM) : Prop := ∀ i p, φ i = some p → φ' i = some p
theorem PM.le_refl (φ : PM) : φ.le φ := fun _ _ h => h
theorem PM.le_trans {a b c : PM} (h : a.le b) (k : b.le c) : a.le c := fun i p e => k i p (h i p e)

theorem VRp_mono {φ φ' : PM} (h : φ.le φ') : ∀ a : AV, (∀ v, VR φ a v → VR φ' a v) ∧ (∀ l, VL φ a l → VL φ' a l) := by
  intro a
  induction a with
  | ptr i o => exact ⟨fun v ⟨p, hp, e⟩ => ⟨p, h _ _ hp, e⟩, fun _ h => h⟩
  | sl i o len cap es op => exact ⟨fun v ⟨p, c, hp, e⟩ => ⟨p, c, h _ _ hp, e⟩, fun _ h => h⟩
  | map i => exact ⟨fun v ⟨p, hp, e⟩ => ⟨p, h _ _ hp, e⟩, fun _ h => h⟩
  | fn f caps ih => exact ⟨fun v ⟨vs, e, hv⟩ => ⟨vs, e, ih.2 _ hv⟩, fun _ h => h⟩
  | agg cs ih => exact ⟨fun v ⟨vs, e, hv⟩ => ⟨vs, e, ih.2 _ hv⟩, fun _ h => h⟩
  | tup cs ih => exact ⟨fun v ⟨vs, e, hv⟩ => ⟨vs, e, ih.2 _ hv⟩, fun _ h => h⟩
  | cons a b iha ihb => exact ⟨fun _ h => h, fun l ⟨v, vs, e, h1, h2⟩ => ⟨v, vs, e, iha.1 _ h1, ihb.2 _ h2⟩⟩
  | _ => exact ⟨fun _ h => h, fun _ h => h⟩
theorem VR.mono {φ φ' : PM} (h : φ.le φ') {a : AV} {v : Value} (k : VR φ a v) : VR φ' a v := (VRp_mono h a).1 v k
theorem VL.mono {φ φ' : PM} (h : φ.le φ') {a : AV} {l : List Value} (k : VL φ a l) : VL φ' a l := (VRp_mono h a).2 l k
theorem VR.unk (φ : PM) (v : Value) : VR φ .unk v := trivial
theorem VL.nil (φ : PM) : VL φ .nil [] := rfl
theorem VL.cons {φ : PM} {a b : AV} {v : Value} {vs : List Value} (h : VR φ a v) (k : VL φ b vs) : VL φ (.cons a b) (v :: vs) := ⟨v, vs, rfl, h, k⟩

/-! ### the abstract heap -/
/-- entries of a map, in its order -/
inductive ML where
  | nil
  | c (k v : AV) (r : ML)

inductive HO where
  | cells (size : Nat) (t : Tr AV) (op mk : Bool)
  | siter (n a pos : Nat)
  | map (es : ML)
  | mapU (es : ML)
  | miter (m : Pt) (n : Nat) (seen : List Nat)

/-- 'lg': the names of the blocks that have been changed -/
structure Hp where
  n : Pt
  t : Tr HO
  lg : List Pt
  ln : Nat

/-- what has been changed stands in the log -/
def Lg (h h' : Hp) : Prop := ∃ new, h'.lg = new ++ h.lg ∧ h'.ln = new.length + h.ln ∧ ∀ i, toN i < toN h.n → i ∉ new → getP i h'.t = getP i h.t
theorem Lg.refl (h : Hp) : Lg h h := ⟨[], rfl, by simp, fun _ _ _ => rfl⟩
theorem Lg.trans {a b c : Hp} (x : Lg a b) (y : Lg b c) (hn : toN a.n ≤ toN b.n) : Lg a c := by
  obtain ⟨l1, e1, k1, f1⟩ := x
  obtain ⟨l2, e2, k2, f2⟩ := y
  exact ⟨l2 ++ l1, by rw [e2, e1, List.append_assoc], by rw [k2, k1, List.length_append, Nat.add_assoc], fun i hi hn' => (f2 i (Nat.lt_of_lt_of_le hi hn) (fun h => hn' (List.mem_append.2 (.inl h)))).trans (f1 i hi (fun h => hn' (List.mem_append.2 (.inr h))))⟩

def ER (φ : PM) : ML → List MapEntry → Nat → Prop
  | .c k v r, e :: es, n => VR φ k e.key ∧ VR φ v e.val ∧ e.born = n ∧ ER φ r es (n + 1)
  | .nil, [], _ => True
  | _, _, _ => False

/-- the entries, in a list -/
def mlL : ML → List (AV × AV)
  | .nil => []
  | .c k v r => (k, v) :: mlL r

def OR (φ : PM) (p : PB) (w : World) : HO → Prop
  | .cells s t _ mk => ∃ c T fr, w.heap[p.blk]? = some (.cells c T fr) ∧ p.off + s ≤ p.top ∧ p.top ≤ c.size ∧ (mk = false → fr = (0, 0)) ∧
      (∀ j, j < p.top → ¬ (fr.1 ≤ j ∧ j < fr.2)) ∧ ∀ j a, j < s → getP (pt j) t = some a → ∃ v, c[p.off + j]? = some v ∧ VR φ a v
  | .siter n a pos => w.heap[p.blk]? = some (.stringIter (strB n a) pos) ∧ a < 256 ^ n ∧ p.off = 0
  | .map es => ∃ l clock, w.heap[p.blk]? = some (.map l clock) ∧ ER φ es l.toList 0 ∧ clock = l.size
  | .mapU es => ∃ l clock es', w.heap[p.blk]? = some (.map l clock) ∧ (mlL es').Perm (mlL es) ∧ ER φ es' l.toList 0 ∧ clock = l.size
  | .miter m n seen => ∃ q, φ m = some q ∧ w.heap[p.blk]? = some (.mapIter (some q.blk) n seen.toArray n) ∧ p.off = 0

/-- the first names are those of the package's variables -/
def GOk (φ : PM) : Prop := ∀ g, g < 400 → ∃ top, φ (pt g) = some ⟨g, 0, top⟩
theorem GOk.mono {φ φ' : PM} (h : φ.le φ') (k : GOk φ) : GOk φ' := fun g hg => let ⟨t, e⟩ := k g hg; ⟨t, h _ _ e⟩

structure WR (φ : PM) (h : Hp) (w : World) : Prop where
  gl : GOk φ
  obj : ∀ i o, getP i h.t = some o → ∃ p, φ i = some p ∧ OR φ p w o
  inj : ∀ i j p q, (getP i h.t).isSome → (getP j h.t).isSome → φ i = some p → φ j = some q → p.blk = q.blk → i = j
  fresh : ∀ i, toN h.n ≤ toN i → getP i h.t = none ∧ φ i = none

/-- may it be written? -/
def wrO : HO → Bool
  | .cells _ _ op mk => op || !mk
  | _ => true
def wrI (h : Hp) (i : Pt) : Prop := ∃ o, getP i h.t = some o ∧ wrO o = true
theorem wrI.isSome {h : Hp} {i : Pt} (k : wrI h i) : (getP i h.t).isSome := by obtain ⟨o, e, _⟩ := k; rw [e]; rfl

structure FrameP (φ : PM) (h : Hp) (w w' : World) : Prop where
  os : w'.os = w.os
  tape : w'.tape = w.tape
  output : w'.output = w.output
  size : w.heap.size ≤ w'.heap.size
  block : ∀ b, b < w.heap.size → (∀ i p, wrI h i → φ i = some p → p.blk ≠ b) → w'.heap[b]? = w.heap[b]?

structure Stp (φ : PM) (h : Hp) (w : World) (φ' : PM) (h' : Hp) (w' : World) : Prop where
  ext : φ.le φ'
  wr : WR φ' h' w'
  fr : FrameP φ h w w'
  orig : ∀ i p, (getP i h'.t).isSome → φ' i = some p → (∃ j q, (getP j h.t).isSome ∧ φ j = some q ∧ q.blk = p.blk) ∨ w.heap.size ≤ p.blk
  origW : ∀ i p, wrI h' i → φ' i = some p → (∃ j q, wrI h j ∧ φ j = some q ∧ q.blk = p.blk) ∨ w.heap.size ≤ p.blk
  next : toN h.n ≤ toN h'.n
  lg : Lg h h'

theorem FrameP.refl (φ : PM) (h : Hp) (w : World) : FrameP φ h w w := ⟨rfl, rfl, rfl, Nat.le_refl _, fun _ _ _ => rfl⟩

theorem Stp.refl {φ : PM} {h : Hp} {w : World} (k : WR φ h w) : Stp φ h w φ h w :=
  ⟨PM.le_refl _, k, FrameP.refl _ _ _, fun i p hi hp => .inl ⟨i, p, hi, hp, rfl⟩, fun i p hi hp => .inl ⟨i, p, hi, hp, rfl⟩, Nat.le_refl _, Lg.refl _⟩

theorem Stp.trans {φ φ1 φ2 : PM} {h h1 h2 : Hp} {w w1 w2 : World} (a : Stp φ h w φ1 h1 w1) (b : Stp φ1 h1 w1 φ2 h2 w2) : Stp φ h w φ2 h2 w2 where
  ext := PM.le_trans a.ext b.ext
  wr := b.wr
  fr := ⟨b.fr.os.trans a.fr.os, b.fr.tape.trans a.fr.tape, b.fr.output.trans a.fr.output, Nat.le_trans a.fr.size b.fr.size, fun k hk hn => by
    rw [b.fr.block k (Nat.lt_of_lt_of_le hk a.fr.size) ?_, a.fr.block k hk hn]
    intro i p hi hp e
    rcases a.origW i p hi hp with ⟨j, q, hj, hq, e2⟩ | hge
    · exact hn j q hj hq (e2.trans e)
    · omega⟩
  orig := fun i p hi hp => by
    rcases b.orig i p hi hp with ⟨j, q, hj, hq, e⟩ | hge
    · rcases a.orig j q hj hq with ⟨j2, q2, hj2, hq2, e2⟩ | hge2
      · exact .inl ⟨j2, q2, hj2, hq2, e2.trans e⟩
      · exact .inr (by omega)
    · exact .inr (Nat.le_trans a.fr.size hge)
  origW := fun i p hi hp => by
    rcases b.origW i p hi hp with ⟨j, q, hj, hq, e⟩ | hge
    · rcases a.origW j q hj hq with ⟨j2, q2, hj2, hq2, e2⟩ | hge2
      · exact .inl ⟨j2, q2, hj2, hq2, e2.trans e⟩
      · exact .inr (by omega)
    · exact .inr (Nat.le_trans a.fr.size hge)
  next := Nat.le_trans a.next b.next
  lg := a.lg.trans b.lg a.next

/-- only the heap of a world is looked at -/
theorem OR.heap {φ : PM} {p : PB} {w w' : World} (e : w'.heap[p.blk]? = w.heap[p.blk]?) : ∀ {o : HO}, OR φ p w o → OR φ p w' o
  | .cells .., h => by unfold OR at *; rw [e]; exact h
  | .siter .., h => by unfold OR at *; rw [e]; exact h
  | .map .., h => by unfold OR at *; rw [e]; exact h
  | .mapU .., h => by unfold OR at *; rw [e]; exact h
  | .miter .., h => by unfold OR at *; rw [e]; exact h

theorem ER.mono {φ φ' : PM} (h : φ.le φ') : ∀ {a : ML} {l : List MapEntry} {n : Nat}, ER φ a l n → ER φ' a l n
  | .c _ _ _, _ :: _, _, ⟨h1, h2, h3, h4⟩ => ⟨h1.mono h, h2.mono h, h3, ER.mono h h4⟩
  | .nil, [], _, _ => trivial
  | .c _ _ _, [], _, h => by simp [ER] at h
  | .nil, _ :: _, _, h => by simp [ER] at h

theorem OR.mono {φ φ' : PM} (h : φ.le φ') {p : PB} {w : World} : ∀ {o : HO}, OR φ p w o → OR φ' p w o
  | .cells .., ⟨c, T, fr, h1, h2, h3, h4, h5, h6⟩ => ⟨c, T, fr, h1, h2, h3, h4, h5, fun j a hj hg => let ⟨v, e, k⟩ := h6 j a hj hg; ⟨v, e, k.mono h⟩⟩
  | .siter .., k => k
  | .map .., ⟨l, c, h1, h2, h3⟩ => ⟨l, c, h1, h2.mono h, h3⟩
  | .mapU .., ⟨l, c, es', h1, hp, h2, h3⟩ => ⟨l, c, es', h1, hp, h2.mono h, h3⟩
  | .miter .., ⟨q, h1, h2, h3⟩ => ⟨q, h _ _ h1, h2, h3⟩

theorem OR.lt {φ : PM} {p : PB} {w : World} {o : HO} (h : OR φ p w o) : p.blk < w.heap.size := by
  have key : ∀ x, w.heap[p.blk]? = some x → p.blk < w.heap.size := fun x e => by
    rcases Nat.lt_or_ge p.blk w.heap.size with h | h
    · exact h
    · rw [Array.getElem?_eq_none h] at e; cases e
  cases o with
  | cells => obtain ⟨c, T, fr, e, _⟩ := h; exact key _ e
  | siter => exact key _ h.1
  | map => obtain ⟨l, c, e, _⟩ := h; exact key _ e
  | mapU => obtain ⟨l, c, es', e, _⟩ := h; exact key _ e
  | miter => obtain ⟨q, _, e, _⟩ := h; exact key _ e
end Go.Exe
