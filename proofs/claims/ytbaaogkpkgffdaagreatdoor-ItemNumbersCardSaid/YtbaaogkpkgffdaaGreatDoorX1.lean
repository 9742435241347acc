/- A part of an executor of the model over abstract values, and what it tells of the calls. -/
import GoSem.Dispatch
import Derived.Laws.Strings
namespace Go.Exe
open Go

/-! ### paths and tries -/
inductive Pt where | o | l (p : Pt) | r (p : Pt)
inductive Tr (α : Type) where | E | N (l : Tr α) (v : Option α) (r : Tr α)

noncomputable def sel {α : Type} (b : Bool) (x y : α) : α := Bool.rec y x b
noncomputable def hereG {α : Type} (t : Tr α) : Option α := Tr.rec none (fun _ v _ _ _ => v) t
noncomputable def ltT {α : Type} (t : Tr α) : Tr α := Tr.rec .E (fun l _ _ _ _ => l) t
noncomputable def rtT {α : Type} (t : Tr α) : Tr α := Tr.rec .E (fun _ _ r _ _ => r) t
noncomputable def getP {α : Type} : Pt → Tr α → Option α := Pt.rec hereG (fun _ ih t => ih (ltT t)) (fun _ ih t => ih (rtT t))
noncomputable def hereS {α : Type} (t : Tr α) (a : Option α) : Tr α := Tr.rec (.N .E a .E) (fun l _ r _ _ => .N l a r) t
noncomputable def leftS {α : Type} (f : Tr α → Tr α) (t : Tr α) : Tr α := Tr.rec (.N (f .E) none .E) (fun l v r _ _ => .N (f l) v r) t
noncomputable def rightS {α : Type} (f : Tr α → Tr α) (t : Tr α) : Tr α := Tr.rec (.N .E none (f .E)) (fun l v r _ _ => .N l v (f r)) t
noncomputable def putP {α : Type} (a : Option α) : Pt → Tr α → Tr α := Pt.rec (fun t => hereS t a) (fun _ ih t => leftS ih t) (fun _ ih t => rightS ih t)
noncomputable def setP {α : Type} (a : α) (p : Pt) (t : Tr α) : Tr α := putP (some a) p t
noncomputable def succP : Pt → Pt := Pt.rec (.l .o) (fun p _ => .r p) (fun _ ih => .l ih)
noncomputable def ptS (ih : Nat → Pt) (i : Nat) : Pt := sel (Nat.beq (Nat.mod i 2) 1) (.l (ih (Nat.div i 2))) (.r (ih (Nat.sub (Nat.div i 2) 1)))
noncomputable def ptF : Nat → Nat → Pt := Nat.rec (fun _ => .o) (fun _ ih i => Nat.rec .o (fun _ _ => ptS ih i) i)
noncomputable def pt (i : Nat) : Pt := ptF i i
noncomputable def beqP : Pt → Pt → Bool :=
  Pt.rec (Pt.rec true (fun _ _ => false) (fun _ _ => false)) (fun _ ih q => Pt.rec false (fun q _ => ih q) (fun _ _ => false) q) (fun _ ih q => Pt.rec false (fun _ _ => false) (fun q _ => ih q) q)

@[simp] theorem sel_true {α : Type} (x y : α) : sel true x y = x := rfl
@[simp] theorem sel_false {α : Type} (x y : α) : sel false x y = y := rfl
theorem sel_ite {α : Type} (b : Bool) (x y : α) : sel b x y = if b = true then x else y := by cases b <;> rfl

section
variable {α : Type}
@[simp] theorem getP_E (p : Pt) : getP p (.E : Tr α) = none := by
  induction p with
  | o => rfl
  | l p ih => exact ih
  | r p ih => exact ih
@[simp] theorem getP_o (l r : Tr α) (v : Option α) : getP .o (.N l v r) = v := rfl
@[simp] theorem getP_l (p : Pt) (l r : Tr α) (v : Option α) : getP (.l p) (.N l v r) = getP p l := rfl
@[simp] theorem getP_r (p : Pt) (l r : Tr α) (v : Option α) : getP (.r p) (.N l v r) = getP p r := rfl

theorem getP_putP_same (a : Option α) (p : Pt) : ∀ t : Tr α, getP p (putP a p t) = a := by
  induction p with
  | o => intro t; cases t <;> rfl
  | l p ih => intro t; cases t <;> exact ih _
  | r p ih => intro t; cases t <;> exact ih _

theorem getP_putP_ne (a : Option α) (p : Pt) : ∀ (q : Pt) (t : Tr α), q ≠ p → getP q (putP a p t) = getP q t := by
  induction p with
  | o =>
    intro q t h
    cases q with
    | o => exact absurd rfl h
    | l q => cases t <;> rfl
    | r q => cases t <;> rfl
  | l p ih =>
    intro q t h
    cases q with
    | o => cases t <;> rfl
    | l q => cases t with
      | E => exact (ih q .E (fun e => h (by rw [e]))).trans rfl
      | N a b c => exact ih q a (fun e => h (by rw [e]))
    | r q => cases t <;> rfl
  | r p ih =>
    intro q t h
    cases q with
    | o => cases t <;> rfl
    | l q => cases t <;> rfl
    | r q => cases t with
      | E => exact (ih q .E (fun e => h (by rw [e]))).trans rfl
      | N a b c => exact ih q c (fun e => h (by rw [e]))

theorem getP_setP (a : α) (p q : Pt) (t : Tr α) [Decidable (q = p)] : getP q (setP a p t) = if q = p then some a else getP q t := by
  split
  · rename_i e; rw [e]; exact getP_putP_same _ _ _
  · rename_i e; exact getP_putP_ne _ _ _ _ e
theorem getP_setP_same (a : α) (p : Pt) (t : Tr α) : getP p (setP a p t) = some a := getP_putP_same _ _ _
theorem getP_setP_ne (a : α) {p q : Pt} (t : Tr α) (h : q ≠ p) : getP q (setP a p t) = getP q t := getP_putP_ne _ _ _ _ h
end

def toN : Pt → Nat
  | .o => 0
  | .l p => 2 * toN p + 1
  | .r p => 2 * toN p + 2

theorem toN_inj : ∀ {p q : Pt}, toN p = toN q → p = q
  | .o, .o, _ => rfl
  | .o, .l q, h => by simp [toN] at h
  | .o, .r q, h => by simp [toN] at h
  | .l p, .o, h => by simp [toN] at h
  | .l p, .l q, h => by rw [toN_inj (p := p) (q := q) (by simp [toN] at h; omega)]
  | .l p, .r q, h => by simp only [toN] at h; omega
  | .r p, .o, h => by simp [toN] at h
  | .r p, .l q, h => by simp only [toN] at h; omega
  | .r p, .r q, h => by rw [toN_inj (p := p) (q := q) (by simp [toN] at h; omega)]

theorem toN_succP (p : Pt) : toN (succP p) = toN p + 1 := by
  induction p with
  | o => rfl
  | l p ih => rfl
  | r p ih => show 2 * toN (succP p) + 1 = _; rw [ih]; simp only [toN]; omega

theorem toN_ptF : ∀ (n i : Nat), i ≤ n → toN (ptF n i) = i := by
  intro n
  induction n with
  | zero => intro i h; obtain rfl : i = 0 := by omega
            rfl
  | succ n ih =>
    intro i h
    cases i with
    | zero => rfl
    | succ i =>
      show toN (ptS (ptF n) (i + 1)) = _
      unfold ptS
      show toN (sel (Nat.beq ((i + 1) % 2) 1) (.l (ptF n ((i + 1) / 2))) (.r (ptF n ((i + 1) / 2 - 1)))) = _
      rw [sel_ite]
      split
      · rename_i hb
        have hb := Nat.eq_of_beq_eq_true hb
        simp only [toN]
        rw [ih _ (by omega)]
        omega
      · rename_i hb
        have hb : (i + 1) % 2 ≠ 1 := fun e => hb (by rw [e]; rfl)
        simp only [toN]
        rw [ih _ (by omega)]
        omega
theorem toN_pt (i : Nat) : toN (pt i) = i := toN_ptF i i (Nat.le_refl _)
theorem pt_inj {i j : Nat} (h : pt i = pt j) : i = j := by rw [← toN_pt i, ← toN_pt j, h]
theorem pt_ne {i j : Nat} (h : i ≠ j) : pt i ≠ pt j := fun e => h (pt_inj e)

theorem beqP_iff : ∀ {p q : Pt}, beqP p q = true ↔ p = q := by
  intro p
  induction p with
  | o => intro q; cases q <;> simp [beqP]
  | l p ih => intro q; cases q with
    | l q => exact ih.trans ⟨fun e => by rw [e], fun e => by cases e; rfl⟩
    | o => exact ⟨fun e => (by cases e), fun e => (by cases e)⟩
    | r q => exact ⟨fun e => (by cases e), fun e => (by cases e)⟩
  | r p ih => intro q; cases q with
    | r q => exact ih.trans ⟨fun e => by rw [e], fun e => by cases e; rfl⟩
    | o => exact ⟨fun e => (by cases e), fun e => (by cases e)⟩
    | l q => exact ⟨fun e => (by cases e), fun e => (by cases e)⟩

deriving instance DecidableEq for Pt

/-! ### strings as numbers -/
def bytesOf : Nat → Nat → List UInt8
  | 0, _ => []
  | n + 1, a => UInt8.ofNat (a % 256) :: bytesOf n (a / 256)
def strB (n a : Nat) : ByteArray := ⟨(bytesOf n a).toArray⟩

@[simp] theorem bytesOf_length (n a : Nat) : (bytesOf n a).length = n := by
  induction n generalizing a with
  | zero => rfl
  | succ n ih => simp [bytesOf, ih]
@[simp] theorem strB_size (n a : Nat) : (strB n a).size = n := by simp [strB, ByteArray.size]
theorem strB_data (n a : Nat) : (strB n a).data.toList = bytesOf n a := rfl
theorem strB_toList (n a : Nat) : (strB n a).toList = bytesOf n a := by rw [Go.ByteArray.toList_eq]; rfl
theorem strB_eq {n a m b : Nat} (h : bytesOf n a = bytesOf m b) : strB n a = strB m b := by unfold strB; rw [h]

/-- the number of a list of bytes -/
def ofB : List UInt8 → Nat
  | [] => 0
  | b :: l => b.toNat + 256 * ofB l

theorem ofB_lt (l : List UInt8) : ofB l < 256 ^ l.length := by
  induction l with
  | nil => simp [ofB]
  | cons b l ih =>
    have := b.toNat_lt
    simp only [ofB, List.length_cons, Nat.pow_succ]
    omega

theorem bytesOf_ofB (l : List UInt8) : bytesOf l.length (ofB l) = l := by
  induction l with
  | nil => rfl
  | cons b l ih =>
    have hb := b.toNat_lt
    simp only [ofB, List.length_cons, bytesOf]
    have h1 : (b.toNat + 256 * ofB l) % 256 = b.toNat := by omega
    have h2 : (b.toNat + 256 * ofB l) / 256 = ofB l := by omega
    rw [h1, h2, ih]
    simp

theorem ofB_bytesOf (n a : Nat) : ofB (bytesOf n a) = a % 256 ^ n := by
  induction n generalizing a with
  | zero => simp [bytesOf, ofB, Nat.mod_one]
  | succ n ih =>
    simp only [bytesOf, ofB, ih]
    have h1 : (UInt8.ofNat (a % 256)).toNat = a % 256 := by simp
    rw [h1, Nat.pow_succ, Nat.mul_comm (256 ^ n) 256, Nat.mod_mul]

theorem ofB_append (l m : List UInt8) : ofB (l ++ m) = ofB l + 256 ^ l.length * ofB m := by
  induction l with
  | nil => simp [ofB]
  | cons b l ih =>
    simp only [List.cons_append, ofB, ih, List.length_cons, Nat.pow_succ]
    rw [Nat.mul_add, ← Nat.mul_assoc, Nat.mul_comm 256 (256 ^ l.length), Nat.add_assoc]

theorem bytesOf_inj {n a b : Nat} (ha : a < 256 ^ n) (hb : b < 256 ^ n) (h : bytesOf n a = bytesOf n b) : a = b := by
  have := congrArg ofB h
  rwa [ofB_bytesOf, ofB_bytesOf, Nat.mod_eq_of_lt ha, Nat.mod_eq_of_lt hb] at this

/-- a list of bytes is the text of its number -/
theorem bytesOf_of {l : List UInt8} {n a : Nat} (hn : l.length = n) (ha : ofB l = a) : bytesOf n a = l := by rw [← hn, ← ha]; exact bytesOf_ofB l

theorem bytesOf_append (n a m b : Nat) (ha : a < 256 ^ n) (hb : b < 256 ^ m) : bytesOf (n + m) (a + b * 256 ^ n) = bytesOf n a ++ bytesOf m b := by
  apply bytesOf_of
  · simp
  · rw [ofB_append, ofB_bytesOf, ofB_bytesOf, Nat.mod_eq_of_lt ha, Nat.mod_eq_of_lt hb, bytesOf_length, Nat.mul_comm]

theorem cat_lt {n a m b : Nat} (ha : a < 256 ^ n) (hb : b < 256 ^ m) : a + b * 256 ^ n < 256 ^ (n + m) := by
  rw [Nat.pow_add]
  have h1 : (b + 1) * 256 ^ n ≤ 256 ^ m * 256 ^ n := Nat.mul_le_mul_right _ (by omega)
  have h2 : (b + 1) * 256 ^ n = b * 256 ^ n + 256 ^ n := by rw [Nat.add_mul, Nat.one_mul]
  rw [Nat.mul_comm (256 ^ n) (256 ^ m)]
  omega

theorem bytesOf_getElem? (n a i : Nat) (h : i < n) : (bytesOf n a)[i]? = some (UInt8.ofNat (a / 256 ^ i % 256)) := by
  induction n generalizing a i with
  | zero => omega
  | succ n ih =>
    cases i with
    | zero => simp [bytesOf]
    | succ i =>
      simp only [bytesOf, List.getElem?_cons_succ]
      rw [ih _ _ (by omega), Nat.div_div_eq_div_mul, Nat.pow_succ, Nat.mul_comm 256]

theorem bytesOf_drop (n a k : Nat) (h : k ≤ n) : (bytesOf n a).drop k = bytesOf (n - k) (a / 256 ^ k) := by
  induction k generalizing n a with
  | zero => simp
  | succ k ih =>
    cases n with
    | zero => omega
    | succ n =>
      simp only [bytesOf, List.drop_succ_cons]
      rw [ih _ _ (by omega), Nat.div_div_eq_div_mul, Nat.pow_succ, Nat.mul_comm 256]
      congr 1
      omega

theorem bytesOf_mod (n a : Nat) : bytesOf n (a % 256 ^ n) = bytesOf n a := by
  apply bytesOf_of
  · simp
  · rw [ofB_bytesOf]

theorem bytesOf_take (n a k : Nat) (h : k ≤ n) : (bytesOf n a).take k = bytesOf k (a % 256 ^ k) := by
  rw [bytesOf_mod]
  induction k generalizing n a with
  | zero => rfl
  | succ k ih =>
    cases n with
    | zero => omega
    | succ n => simp only [bytesOf, List.take_succ_cons]; rw [ih _ _ (by omega)]

theorem bytesOf_sub (n v a b : Nat) (hab : a ≤ b) (hb : b ≤ n) : bytesOf (b - a) (v / 256 ^ a % 256 ^ (b - a)) = ((bytesOf n v).take b).drop a := by
  rw [List.drop_take, bytesOf_drop _ _ _ (by omega), bytesOf_take _ _ _ (by omega)]
end Go.Exe
