/- A part of an executor of the model over abstract values, and what it tells of the calls. -/
import Derived.Test.YtbaaogkpkgffdaaGreatDoorX8
namespace Go.Exe
open Go
set_option linter.unusedSectionVars false
variable [Env]

/-! ### numbers -/
noncomputable def iblt (a b : Int) : Bool := Int.rec (motive := fun _ => Bool) (fun a => Int.rec (motive := fun _ => Bool) (fun b => Nat.blt a b) (fun _ => false) b) (fun a => Int.rec (motive := fun _ => Bool) (fun _ => true) (fun b => Nat.blt b a) b) a
noncomputable def ieq (a b : Int) : Bool := Int.rec (motive := fun _ => Bool) (fun a => Int.rec (motive := fun _ => Bool) (fun b => Nat.beq a b) (fun _ => false) b) (fun a => Int.rec (motive := fun _ => Bool) (fun _ => false) (fun b => Nat.beq a b) b) a
noncomputable def w63 (n : Int) (s : Int) (a : Nat) : Int := sel (Nat.blt a 9223372036854775808) n s
noncomputable def w31 (n : Int) (s : Int) (a : Nat) : Int := sel (Nat.blt a 2147483648) n s
noncomputable def wr64 (n : Int) : Int := Int.rec (motive := fun _ => Int) (w63 n (IntKind.i64.wrap n)) (w63 n (IntKind.i64.wrap n)) n
noncomputable def wr32 (n : Int) : Int := Int.rec (motive := fun _ => Int) (w31 n (IntKind.i32.wrap n)) (w31 n (IntKind.i32.wrap n)) n
noncomputable def wru8 (n : Int) : Int := Int.rec (motive := fun _ => Int) (fun a => .ofNat (Nat.mod a 256)) (fun _ => IntKind.u8.wrap n) n
noncomputable def wru64 (n : Int) : Int := Int.rec (motive := fun _ => Int) (fun a => .ofNat (Nat.mod a 18446744073709551616)) (fun _ => IntKind.u64.wrap n) n
noncomputable def iwrap (k : IntKind) (n : Int) : Int := IntKind.rec (motive := fun _ => Int → Int) IntKind.i8.wrap IntKind.i16.wrap wr32 wr64 wru8 IntKind.u16.wrap IntKind.u32.wrap wru64 k n
noncomputable def kIdx (k : IntKind) : Nat := IntKind.rec (motive := fun _ => Nat) 0 1 2 3 4 5 6 7 k
noncomputable def eqK (k l : IntKind) : Bool := Nat.beq (kIdx k) (kIdx l)

theorem ieq_iff {a b : Int} : ieq a b = decide (a = b) := by
  cases a <;> cases b <;> simp only [ieq]
  · rename_i a b
    show Nat.beq a b = _
    rw [Bool.eq_iff_iff]; simp [Nat.beq_eq]
    exact ⟨fun h => by rw [h], fun h => Int.ofNat.inj h⟩
  · rename_i a b
    show false = _
    symm; rw [decide_eq_false_iff_not]; exact fun h => by cases h
  · rename_i a b
    show false = _
    symm; rw [decide_eq_false_iff_not]; exact fun h => by cases h
  · rename_i a b
    show Nat.beq a b = _
    rw [Bool.eq_iff_iff]; simp [Nat.beq_eq]
theorem iblt_iff {a b : Int} : iblt a b = decide (a < b) := by
  cases a <;> cases b <;> simp only [iblt]
  · rename_i a b
    show Nat.blt a b = _
    rw [Bool.eq_iff_iff]; simp [Nat.blt_eq]
  · rename_i a b
    show false = _
    symm; rw [decide_eq_false_iff_not]; have := Int.negSucc_lt_zero b; have : (0 : Int) ≤ Int.ofNat a := Int.natCast_nonneg a; omega
  · rename_i a b
    show true = _
    symm; rw [decide_eq_true_eq]; have := Int.negSucc_lt_zero a; have : (0 : Int) ≤ Int.ofNat b := Int.natCast_nonneg b; omega
  · rename_i a b
    show Nat.blt b a = _
    rw [Bool.eq_iff_iff]; simp [Nat.blt_eq]; omega
theorem eqK_iff {k l : IntKind} (h : eqK k l = true) : k = l := by
  revert h; cases k <;> cases l <;> decide +kernel

theorem wr64_eq (n : Int) : wr64 n = IntKind.i64.wrap n := by
  have key : -9223372036854775808 ≤ n → n < 9223372036854775808 → n = IntKind.i64.wrap n := fun h1 h2 => by
    simp only [IntKind.wrap, IntKind.bits, IntKind.signed]
    simp
    split <;> omega
  cases n with
  | ofNat a =>
    refine sel_elim (C := fun x => x = IntKind.i64.wrap (.ofNat a)) (fun h => ?_) (fun _ => rfl)
    have := blt_lt h
    exact key (by have : (0 : Int) ≤ Int.ofNat a := Int.natCast_nonneg a; omega) (by have : Int.ofNat a = (a : Int) := rfl; omega)
  | negSucc a =>
    refine sel_elim (C := fun x => x = IntKind.i64.wrap (.negSucc a)) (fun h => ?_) (fun _ => rfl)
    have := blt_lt h
    exact key (by omega) (by omega)
theorem wr32_eq (n : Int) : wr32 n = IntKind.i32.wrap n := by
  have key : -2147483648 ≤ n → n < 2147483648 → n = IntKind.i32.wrap n := fun h1 h2 => by
    simp only [IntKind.wrap, IntKind.bits, IntKind.signed]
    simp
    split <;> omega
  cases n with
  | ofNat a =>
    refine sel_elim (C := fun x => x = IntKind.i32.wrap (.ofNat a)) (fun h => ?_) (fun _ => rfl)
    have := blt_lt h
    exact key (by have : (0 : Int) ≤ Int.ofNat a := Int.natCast_nonneg a; omega) (by have : Int.ofNat a = (a : Int) := rfl; omega)
  | negSucc a =>
    refine sel_elim (C := fun x => x = IntKind.i32.wrap (.negSucc a)) (fun h => ?_) (fun _ => rfl)
    have := blt_lt h
    exact key (by omega) (by omega)
theorem wru8_eq (n : Int) : wru8 n = IntKind.u8.wrap n := by
  cases n with
  | ofNat a => show ((a % 256 : Nat) : Int) = _; simp [IntKind.wrap, IntKind.bits, IntKind.signed]
  | negSucc a => rfl
theorem wru64_eq (n : Int) : wru64 n = IntKind.u64.wrap n := by
  cases n with
  | ofNat a => show ((a % 18446744073709551616 : Nat) : Int) = _; simp [IntKind.wrap, IntKind.bits, IntKind.signed]
  | negSucc a => rfl
theorem iwrap_eq (k : IntKind) (n : Int) : iwrap k n = k.wrap n := by
  cases k <;> first | rfl | exact wr32_eq n | exact wr64_eq n | exact wru8_eq n | exact wru64_eq n

/-! ### operators on numbers and texts -/
noncomputable def obA {α : Type} (o : Option α) (k : α → Option AV) : Option AV := Option.rec none k o
theorem obA_inv {α : Type} {o : Option α} {k : α → Option AV} {x : AV} (h : obA o k = some x) : ∃ a, o = some a ∧ k a = some x := by
  cases o with
  | none => cases h
  | some a => exact ⟨a, rfl, h⟩
noncomputable def int2 (f : IntKind → Int → Int → Option AV) (k : IntKind) (n : Int) (k' : IntKind) (m : Int) : Option AV := sel (eqK k k') (f k n m) none
noncomputable def ints (f : IntKind → Int → Int → Option AV) (x y : AV) : Option AV := onInt none (fun k n => onInt none (int2 f k n) y) x
noncomputable def shift2 (f : IntKind → Int → Nat → Option AV) (x y : AV) : Option AV := onInt none (fun k n => onInt none (fun _ m => sel (iblt m 0) none (f k n m.toNat)) y) x
noncomputable def cat (n a m b : Nat) : Option AV := sel (Nat.ble (Nat.add n m) 9223372036854775807) (some (.str (Nat.add n m) (Nat.add a (Nat.mul b (Nat.pow 256 n))))) none
noncomputable def strs (f : Nat → Nat → Nat → Nat → Option AV) (x y : AV) : Option AV := onStr none (fun n a => onStr none (f n a) y) x
noncomputable def nz (m : Int) (v : AV) : Option AV := sel (ieq m 0) none (some v)
noncomputable def bitsV (op : BinOp) (k : IntKind) (a b : BitVec k.bits) : AV := BinOp.rec (motive := fun _ => AV) .unk .unk .unk .unk .unk (.int k (k.wrap (a &&& b).toNat)) (.int k (k.wrap (a ||| b).toNat)) (.int k (k.wrap (a ^^^ b).toNat)) .unk .unk (.int k (k.wrap (a &&& ~~~b).toNat)) .unk .unk .unk .unk .unk .unk op
noncomputable def bitsO (op : BinOp) (k : IntKind) (n m : Int) : Option AV := some (bitsV op k (BitVec.ofInt k.bits n) (BitVec.ofInt k.bits m))
noncomputable def nB (b : Bool) : Bool := Bool.rec true false b
/-- operators but == and != -/
noncomputable def arith (op : BinOp) : AV → AV → Option AV := BinOp.rec (motive := fun _ => AV → AV → Option AV)
  (fun x y => onStr (ints (fun k n m => some (.int k (iwrap k (Int.add n m)))) x y) (fun n a => onStr none (cat n a) y) x)
  (ints fun k n m => some (.int k (iwrap k (Int.sub n m))))
  (ints fun k n m => some (.int k (iwrap k (Int.mul n m))))
  (ints fun k n m => nz m (.int k (iwrap k (Int.tdiv n m))))
  (ints fun k n m => nz m (.int k (Int.tmod n m)))
  (ints (bitsO .and)) (ints (bitsO .or)) (ints (bitsO .xor))
  (shift2 fun k n m => some (.int k (k.wrap (n * 2 ^ (min m k.bits)))))
  (shift2 fun k n m => some (.int k (n.fdiv (2 ^ (min m k.bits)))))
  (ints (bitsO .andNot))
  (fun _ _ => none) (fun _ _ => none)
  (ints fun _ n m => some (.bool (iblt n m))) (ints fun _ n m => some (.bool (nB (iblt m n))))
  (ints fun _ n m => some (.bool (iblt m n))) (ints fun _ n m => some (.bool (nB (iblt n m)))) op

theorem onInt_inv {β : Type} {d : Option β} {k : IntKind → Int → Option β} {v : AV} {x : β} (hd : d = none) (h : onInt d k v = some x) : ∃ q n, v = .int q n ∧ k q n = some x := by
  subst hd; cases v <;> first | (cases h; done) | exact ⟨_, _, rfl, h⟩
theorem onStr_inv {β : Type} {k : Nat → Nat → Option β} {v : AV} {x : β} (h : onStr none k v = some x) : ∃ n a, v = .str n a ∧ k n a = some x := by
  cases v <;> first | (cases h; done) | exact ⟨_, _, rfl, h⟩

theorem ints_inv {f : IntKind → Int → Int → Option AV} {x y z : AV} (h : ints f x y = some z) : ∃ k n m, x = .int k n ∧ y = .int k m ∧ f k n m = some z := by
  obtain ⟨k, n, e1, h1⟩ := onInt_inv rfl h
  obtain ⟨k', m, e2, h2⟩ := onInt_inv rfl h1
  obtain ⟨h3, h4⟩ := sel_some_inv h2
  have := eqK_iff h3
  subst this
  exact ⟨k, n, m, e1, e2, h4⟩

theorem nB_eq (b : Bool) : nB b = !b := by cases b <;> rfl

/-- what an operator but == and != comes to -/
theorem arith_sound {P : Program} {φ : PM} {op : BinOp} {x y z : AV} {u v : Value} (hx : VR φ x u) (hy : VR φ y v) (e : arith op x y = some z) (t : TypeId) :
    ∃ r, (∀ w : World, (binOp op t u v).run P w = .ok r w) ∧ VR φ z r := by
  have I : ∀ {f : IntKind → Int → Int → Option AV}, ints f x y = some z → ∃ k n m, u = .int k n ∧ v = .int k m ∧ f k n m = some z := fun h => by
    obtain ⟨k, n, m, e1, e2, h1⟩ := ints_inv h
    rw [e1] at hx; rw [e2] at hy
    exact ⟨k, n, m, hx, hy, h1⟩
  have S : ∀ {f : IntKind → Int → Nat → Option AV}, shift2 f x y = some z → ∃ k n k' m, u = .int k n ∧ v = .int k' m ∧ 0 ≤ m ∧ f k n m.toNat = some z := fun h => by
    obtain ⟨k, n, e1, h1⟩ := onInt_inv rfl h
    obtain ⟨k', m, e2, h2⟩ := onInt_inv rfl h1
    rw [e1] at hx; rw [e2] at hy
    refine ⟨k, n, k', m, hx, hy, ?_⟩
    cases hb : iblt m 0 with
    | true => rw [hb] at h2; cases h2
    | false =>
      rw [hb] at h2
      rw [iblt_iff] at hb
      exact ⟨by simpa using hb, h2⟩
  have B : ∀ (q : BinOp), (q = .and ∨ q = .or ∨ q = .xor ∨ q = .andNot) → ints (bitsO q) x y = some z → op = q → ∃ r, (∀ w : World, (binOp op t u v).run P w = .ok r w) ∧ VR φ z r := by
    intro q hq h eo
    subst eo
    obtain ⟨k, n, m, rfl, rfl, h⟩ := I h
    rcases hq with rfl | rfl | rfl | rfl
    · cases h; exact ⟨Value.int k (k.wrap (BitVec.ofInt k.bits n &&& BitVec.ofInt k.bits m).toNat), fun w => by simp [binOp, Op.intBits], rfl⟩
    · cases h; exact ⟨Value.int k (k.wrap (BitVec.ofInt k.bits n ||| BitVec.ofInt k.bits m).toNat), fun w => by simp [binOp, Op.intBits], rfl⟩
    · cases h; exact ⟨Value.int k (k.wrap (BitVec.ofInt k.bits n ^^^ BitVec.ofInt k.bits m).toNat), fun w => by simp [binOp, Op.intBits], rfl⟩
    · cases h; exact ⟨Value.int k (k.wrap (BitVec.ofInt k.bits n &&& ~~~BitVec.ofInt k.bits m).toNat), fun w => by simp [binOp, Op.intBits], rfl⟩
  cases op with
  | add =>
    have e : onStr (ints (fun k n m => some (.int k (iwrap k (Int.add n m)))) x y) (fun n a => onStr none (cat n a) y) x = some z := e
    by_cases hs : ∃ n a, x = .str n a
    · obtain ⟨n, a, rfl⟩ := hs
      obtain ⟨m, b, rfl, h⟩ := onStr_inv (v := y) e
      obtain ⟨hle, h2⟩ := sel_some_inv h
      cases h2
      obtain ⟨rfl, ha⟩ := hx
      obtain ⟨rfl, hb⟩ := hy
      have hle : n + m ≤ 9223372036854775807 := Nat.le_of_ble_eq_true hle
      refine ⟨.string (strB n a ++ strB m b), ?_, ?_, cat_lt ha hb⟩
      · intro w
        have : ¬ (((strB n a).size + (strB m b).size : Nat) : Int) > IntKind.i64.max := by simp [IntKind.max, IntKind.bits, IntKind.signed]; omega
        simp only [binOp, Op.stringOp]
        rw [if_neg this]; rfl
      · congr 1
        show _ = strB (n + m) (a + b * 256 ^ n)
        unfold strB
        rw [bytesOf_append n a m b ha hb]
        apply ByteArray.ext
        simp
    · have e2 : ints (fun k n m => some (.int k (iwrap k (Int.add n m)))) x y = some z := by
        cases x <;> first | exact e | exact absurd ⟨_, _, rfl⟩ hs
      obtain ⟨k, n, m, rfl, rfl, h⟩ := I e2
      cases h
      refine ⟨Value.int k (k.wrap (n + m)), fun w => by simp [binOp, Op.intArith], ?_⟩
      show _ = Value.int k (iwrap k (n + m)); rw [iwrap_eq]
  | sub =>
    obtain ⟨k, n, m, rfl, rfl, h⟩ := I e
    cases h
    refine ⟨Value.int k (k.wrap (n - m)), fun w => by simp [binOp, Op.intArith], ?_⟩
    show _ = Value.int k (iwrap k (n - m)); rw [iwrap_eq]
  | mul =>
    obtain ⟨k, n, m, rfl, rfl, h⟩ := I e
    cases h
    refine ⟨Value.int k (k.wrap (n * m)), fun w => by simp [binOp, Op.intArith], ?_⟩
    show _ = Value.int k (iwrap k (n * m)); rw [iwrap_eq]
  | quo =>
    obtain ⟨k, n, m, rfl, rfl, h⟩ := I e
    cases hz : ieq m 0 with
    | true => unfold nz at h; rw [hz] at h; cases h
    | false =>
      unfold nz at h; rw [hz] at h; cases h
      rw [ieq_iff] at hz
      have hz : m ≠ 0 := by simpa using hz
      refine ⟨Value.int k (k.wrap (n.tdiv m)), fun w => by simp [binOp, Op.intDiv, hz], ?_⟩
      show _ = Value.int k (iwrap k (n.tdiv m)); rw [iwrap_eq]
  | rem =>
    obtain ⟨k, n, m, rfl, rfl, h⟩ := I e
    cases hz : ieq m 0 with
    | true => unfold nz at h; rw [hz] at h; cases h
    | false =>
      unfold nz at h; rw [hz] at h; cases h
      rw [ieq_iff] at hz
      have hz : m ≠ 0 := by simpa using hz
      exact ⟨Value.int k (n.tmod m), fun w => by simp [binOp, Op.intDiv, hz], rfl⟩
  | and => exact B .and (.inl rfl) e rfl
  | or => exact B .or (.inr (.inl rfl)) e rfl
  | xor => exact B .xor (.inr (.inr (.inl rfl))) e rfl
  | andNot => exact B .andNot (.inr (.inr (.inr rfl))) e rfl
  | shl =>
    obtain ⟨k, n, k', m, rfl, rfl, h0, h⟩ := S (f := fun k n m => some (.int k (k.wrap (n * 2 ^ (min m k.bits))))) e
    cases h
    have h0' : ¬ m < 0 := by omega
    exact ⟨Value.int k (k.wrap (n * 2 ^ (min m.toNat k.bits))), fun w => by simp [binOp, Op.shift, h0'], rfl⟩
  | shr =>
    obtain ⟨k, n, k', m, rfl, rfl, h0, h⟩ := S (f := fun k n m => some (.int k (n.fdiv (2 ^ (min m k.bits))))) e
    cases h
    have h0' : ¬ m < 0 := by omega
    exact ⟨Value.int k (n.fdiv (2 ^ (min m.toNat k.bits))), fun w => by simp [binOp, Op.shift, h0'], rfl⟩
  | eql => cases e
  | neq => cases e
  | lss =>
    obtain ⟨k, n, m, rfl, rfl, h⟩ := I e
    cases h
    refine ⟨Value.bool (decide (n < m)), fun w => by simp [binOp, Op.intCmp], ?_⟩
    show _ = Value.bool (iblt n m); rw [iblt_iff]
  | leq =>
    obtain ⟨k, n, m, rfl, rfl, h⟩ := I e
    cases h
    refine ⟨Value.bool (decide (n ≤ m)), fun w => by simp [binOp, Op.intCmp], ?_⟩
    show _ = Value.bool (nB (iblt m n)); rw [nB_eq, iblt_iff]
    congr 1; rw [Bool.eq_iff_iff]; simp
  | gtr =>
    obtain ⟨k, n, m, rfl, rfl, h⟩ := I e
    cases h
    refine ⟨Value.bool (decide (n > m)), fun w => by simp [binOp, Op.intCmp], ?_⟩
    show _ = Value.bool (iblt m n); rw [iblt_iff]
  | geq =>
    obtain ⟨k, n, m, rfl, rfl, h⟩ := I e
    cases h
    refine ⟨Value.bool (decide (n ≥ m)), fun w => by simp [binOp, Op.intCmp], ?_⟩
    show _ = Value.bool (nB (iblt n m)); rw [nB_eq, iblt_iff]
    congr 1; rw [Bool.eq_iff_iff]; simp
end Go.Exe
