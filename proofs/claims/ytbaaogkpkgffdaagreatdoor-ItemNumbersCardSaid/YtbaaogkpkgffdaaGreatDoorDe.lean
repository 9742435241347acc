/- A part of an executor of the model over abstract values, and what it tells of the calls. -/
import Derived.Test.YtbaaogkpkgffdaaGreatDoorNu
namespace Go.Proofs
open Go.RowKit Num
set_option maxRecDepth 1000000
namespace Num
def dig (u : Nat) : UInt8 := UInt8.ofNat (48 + u % 10)
def decGo : Nat → Nat → List UInt8 → List UInt8
  | 0, _, d => d
  | f + 1, u, d => if u = 0 ∧ d ≠ [] then d else decGo f (u / 10) (dig u :: d)
def sgL (n : Int) : List UInt8 := if n < 0 then [45] else []
def decL (n : Int) : List UInt8 := sgL n ++ decGo 21 n.natAbs []
end Num
def strSz : Value → Nat
  | .string s => s.size
  | _ => 0
def dMeas (u d : Value) : Nat := 2 * (Lib.intOf u).toNat + (if strSz d = 0 then 1 else 0)
theorem dMeas_at (v : Nat) (dl : List UInt8) : dMeas (.int .u64 (v : Int)) (.string ⟨dl.toArray⟩) = 2 * v + (if dl = [] then 1 else 0) := by
  unfold dMeas strSz
  have : ByteArray.size ⟨dl.toArray⟩ = dl.length := rfl
  simp [Lib.intOf, this]
theorem dig_nat (u : Nat) : (dig u).toNat = 48 + u % 10 := by
  unfold dig; rw [UInt8.toNat_ofNat']; omega
/-- equations that the walk is not to see -/
def IsEq (a b : ByteArray) : Prop := a = b
theorem IsEq.symm {a b : ByteArray} (h : IsEq a b) : b = a := Eq.symm h
def IsS (n : Int) (S : ByteArray) : Prop := S = ⟨(decL n).toArray⟩
theorem pow_step {v f : Nat} (h : v < 10 ^ f) (hf : f ≠ 0) : v / 10 < 10 ^ (f - 1) := by
  obtain ⟨g, rfl⟩ : ∃ g, f = g + 1 := ⟨f - 1, by omega⟩
  rw [Nat.pow_succ] at h
  simp only [Nat.add_sub_cancel]
  omega
theorem decGo_stop {f : Nat} {dl : List UInt8} (h : dl ≠ []) : decGo f 0 dl = dl := by
  cases f with
  | zero => rfl
  | succ f => simp [decGo, h]
theorem decGo_step {f v : Nat} {dl : List UInt8} (h : ¬ (v = 0 ∧ dl ≠ [])) : decGo (f + 1) v dl = decGo f (v / 10) (dig v :: dl) := by
  rw [decGo, if_neg h]
theorem conv1 (wr : World) (v : Nat) : (convert 103 9 (.slice (some ⟨wr.heap.size, 0, none⟩) 1 1)).run Tryz.prog (wr.alloc (.cells #[.int .u8 (48 + (v : Int) % 10)] 5)) = .ok (.string ⟨#[dig v]⟩) (wr.alloc (.cells #[.int .u8 (48 + (v : Int) % 10)] 5)) := by
  refine run_convert_bytes_back (P := Tryz.prog) (wr.alloc (.cells #[.int .u8 (48 + (v : Int) % 10)] 5)) 103 9 5 ⟨wr.heap.size, 0, none⟩ 1 [dig v] Tryz.underlying103 Tryz.underlying5 Tryz.underlying9 fun j hj => ?_
  obtain rfl : j = 0 := by simp at hj; omega
  have he : ((dig v).toNat : Int) = 48 + (v : Int) % 10 := by rw [dig_nat]; omega
  show World.cell? _ ⟨wr.heap.size, 0, none⟩ = some (.int .u8 ((dig v).toNat : Int))
  rw [he]
  unfold World.cell? World.alloc
  simp only [Array.getElem?_push_size]
  rfl
theorem strCat (a b : List UInt8) : (⟨a.toArray⟩ : ByteArray) ++ ⟨b.toArray⟩ = ⟨(a ++ b).toArray⟩ := by
  apply ByteArray.ext; simp
theorem dMeas0 (v : Nat) (dl : List UInt8) (d' : UInt8) (h : ¬ (v = 0 ∧ dl ≠ [])) : dMeas (.int .u64 ((v / 10 : Nat) : Int)) (.string ⟨(d' :: dl).toArray⟩) < dMeas (.int .u64 (v : Int)) (.string ⟨dl.toArray⟩) := by
  rw [dMeas_at, dMeas_at]
  by_cases hd : dl = []
  · simp [hd]; omega
  · have : v ≠ 0 := fun e => h ⟨e, hd⟩
    simp [hd]; omega
set_option maxHeartbeats 8000000 in
theorem Tryz.decimal_walk0 (n : Int) (S : ByteArray) (hS : IsS n S) (w : World) (h0 : -9223372036854775808 ≤ n) (h1 : n ≤ 9223372036854775807) :
    Calls Tryz.prog 20 #[.int .i64 n] w fun e w' => e = .returned (.string S) ∧ Below w.heap.size w w' := by
  by_cases hn : n < 0
  · have hu1 : IntKind.u64.wrap (-(IntKind.u64.wrap n)) = (n.natAbs : Int) := by simp [IntKind.wrap, IntKind.bits, IntKind.signed]; omega
    have hd : decL n = [45] ++ decGo 21 n.natAbs [] := by unfold decL sgL; rw [if_pos hn]
    go_enter Tryz.func20, Tryz.ntmps20
    go_wp2
    go_loopw [3, 5] (fun u d wr => ∃ (f v : Nat) (dl : List UInt8), u = .int .u64 (v : Int) ∧ d = .string ⟨dl.toArray⟩ ∧ v < 10 ^ f ∧ v ≤ 9223372036854775808 ∧ dl.length + f = 20 ∧ decGo (f + 1) v dl = decGo 21 n.natAbs [] ∧ Below w.heap.size w wr) (fun u d _ => dMeas u d)
    case atStart => exact ⟨20, n.natAbs, [], rfl, rfl, by omega, by omega, rfl, rfl, Below.refl _ _⟩
    case round =>
      obtain ⟨f, v, dl, rfl, rfl, hv, hv64, hl, hgo, hB⟩ := hrel
      have hsz : ((⟨dl.toArray⟩ : ByteArray).size : Int) ≤ 20 := by
        have : ByteArray.size ⟨dl.toArray⟩ = dl.length := rfl
        omega
      have hc1 := conv1 wr v
      by_cases hcont : v = 0 ∧ dl ≠ []
      · obtain ⟨rfl, hde⟩ := hcont
        rw [decGo_stop hde] at hgo
        have hde' : dl.isEmpty = false := by simpa using hde
        have hfin : IsS n (⟨[45].toArray⟩ ++ ⟨dl.toArray⟩) := by unfold IsS; rw [hd, ← hgo]; exact strCat [45] dl
        have hSS : IsEq S (⟨[45].toArray⟩ ++ ⟨dl.toArray⟩) := hS.trans hfin.symm
        clear hgo hd hc1
        go_wp2
        go_ret
        exact ⟨congrArg Ending.returned (congrArg Value.string hSS.symm), hB⟩
      · rw [decGo_step hcont] at hgo
        have hms := dMeas0 v dl (dig v) hcont
        have hf0 : f ≠ 0 ∨ v = 0 := by
          rcases Nat.eq_zero_or_pos f with h | h
          · right; rw [h] at hv; simp at hv; omega
          · left; omega
        have rel : ∃ f', f' + 1 = f → True := ⟨0, fun _ => trivial⟩
        have hstep : ∃ (f' v' : Nat) (dl' : List UInt8), ((v / 10 : Nat) : Int) = (v' : Int) ∧ (⟨(dig v :: dl).toArray⟩ : ByteArray) = ⟨dl'.toArray⟩ ∧ v' < 10 ^ f' ∧ v' ≤ 9223372036854775808 ∧ dl'.length + f' = 20 ∧ decGo (f' + 1) v' dl' = decGo 21 n.natAbs [] := by
          have hfp : f ≠ 0 := fun e => by
            subst e
            have h0 : v = 0 := by simpa using hv
            exact hcont ⟨h0, fun e => by rw [e] at hl; simp at hl⟩
          obtain ⟨g, rfl⟩ : ∃ g, f = g + 1 := ⟨f - 1, by omega⟩
          exact ⟨g, v / 10, dig v :: dl, rfl, rfl, by have := pow_step hv hfp; simpa using this, by omega, by simp; omega, hgo⟩
        by_cases hv0 : v = 0
        · have hde : dl = [] := Classical.byContradiction fun e => hcont ⟨hv0, e⟩
          subst hde; subst hv0
          have hc0 : (convert 103 9 (.slice (some ⟨wr.heap.size, 0, none⟩) 1 1)).run Tryz.prog (wr.alloc (.cells #[.int .u8 48] 5)) = .ok (.string ⟨#[dig 0]⟩) (wr.alloc (.cells #[.int .u8 48] 5)) := hc1
          clear hc1
          have hms0 : dMeas (.int .u64 0) (.string ⟨[dig 0].toArray⟩) < dMeas (.int .u64 ((0 : Nat) : Int)) (.string ⟨([] : List UInt8).toArray⟩) := hms
          have hcat : (⟨#[dig 0]⟩ : ByteArray) ++ ⟨#[]⟩ = ⟨#[dig 0]⟩ := strCat [dig 0] []
          go_wp2
          obtain ⟨f', v', dl', e1, e2, e3, e4, e5, e6⟩ := hstep
          exact ⟨⟨f', v', dl', congrArg (Value.int .u64) e1, congrArg Value.string e2, e3, e4, e5, e6, hB.alloc hB.size _⟩, hms0⟩
        · have hv0' : (0 : Int) < (v : Int) := by omega
          go_wp2
          obtain ⟨f', v', dl', e1, e2, e3, e4, e5, e6⟩ := hstep
          have hcat : (⟨#[dig v]⟩ : ByteArray) ++ ⟨dl.toArray⟩ = ⟨(dig v :: dl).toArray⟩ := strCat [dig v] dl
          have hdiv : (v : Int) / 10 = ((v / 10 : Nat) : Int) := by omega
          rw [hcat, hdiv]
          exact ⟨⟨f', v', dl', by rw [e1], by rw [e2], e3, e4, e5, e6, hB.alloc hB.size _⟩, hms⟩
  · have hu1 : IntKind.u64.wrap n = (n.natAbs : Int) := by simp [IntKind.wrap, IntKind.bits, IntKind.signed]; omega
    have hd : decL n = [] ++ decGo 21 n.natAbs [] := by unfold decL sgL; rw [if_neg hn]
    go_enter Tryz.func20, Tryz.ntmps20
    go_wp2
    go_loopw [3, 5] (fun u d wr => ∃ (f v : Nat) (dl : List UInt8), u = .int .u64 (v : Int) ∧ d = .string ⟨dl.toArray⟩ ∧ v < 10 ^ f ∧ v ≤ 9223372036854775808 ∧ dl.length + f = 20 ∧ decGo (f + 1) v dl = decGo 21 n.natAbs [] ∧ Below w.heap.size w wr) (fun u d _ => dMeas u d)
    case atStart => exact ⟨20, n.natAbs, [], rfl, rfl, by omega, by omega, rfl, rfl, Below.refl _ _⟩
    case round =>
      obtain ⟨f, v, dl, rfl, rfl, hv, hv64, hl, hgo, hB⟩ := hrel
      have hsz : ((⟨dl.toArray⟩ : ByteArray).size : Int) ≤ 20 := by
        have : ByteArray.size ⟨dl.toArray⟩ = dl.length := rfl
        omega
      have hc1 := conv1 wr v
      by_cases hcont : v = 0 ∧ dl ≠ []
      · obtain ⟨rfl, hde⟩ := hcont
        rw [decGo_stop hde] at hgo
        have hde' : dl.isEmpty = false := by simpa using hde
        have hfin : IsS n (⟨([] : List UInt8).toArray⟩ ++ ⟨dl.toArray⟩) := by unfold IsS; rw [hd, ← hgo]; exact strCat [] dl
        have hSS : IsEq S (⟨([] : List UInt8).toArray⟩ ++ ⟨dl.toArray⟩) := hS.trans hfin.symm
        clear hgo hd hc1
        go_wp2
        go_ret
        exact ⟨congrArg Ending.returned (congrArg Value.string hSS.symm), hB⟩
      · rw [decGo_step hcont] at hgo
        have hms := dMeas0 v dl (dig v) hcont
        have hf0 : f ≠ 0 ∨ v = 0 := by
          rcases Nat.eq_zero_or_pos f with h | h
          · right; rw [h] at hv; simp at hv; omega
          · left; omega
        have rel : ∃ f', f' + 1 = f → True := ⟨0, fun _ => trivial⟩
        have hstep : ∃ (f' v' : Nat) (dl' : List UInt8), ((v / 10 : Nat) : Int) = (v' : Int) ∧ (⟨(dig v :: dl).toArray⟩ : ByteArray) = ⟨dl'.toArray⟩ ∧ v' < 10 ^ f' ∧ v' ≤ 9223372036854775808 ∧ dl'.length + f' = 20 ∧ decGo (f' + 1) v' dl' = decGo 21 n.natAbs [] := by
          have hfp : f ≠ 0 := fun e => by
            subst e
            have h0 : v = 0 := by simpa using hv
            exact hcont ⟨h0, fun e => by rw [e] at hl; simp at hl⟩
          obtain ⟨g, rfl⟩ : ∃ g, f = g + 1 := ⟨f - 1, by omega⟩
          exact ⟨g, v / 10, dig v :: dl, rfl, rfl, by have := pow_step hv hfp; simpa using this, by omega, by simp; omega, hgo⟩
        by_cases hv0 : v = 0
        · have hde : dl = [] := Classical.byContradiction fun e => hcont ⟨hv0, e⟩
          subst hde; subst hv0
          have hc0 : (convert 103 9 (.slice (some ⟨wr.heap.size, 0, none⟩) 1 1)).run Tryz.prog (wr.alloc (.cells #[.int .u8 48] 5)) = .ok (.string ⟨#[dig 0]⟩) (wr.alloc (.cells #[.int .u8 48] 5)) := hc1
          clear hc1
          have hms0 : dMeas (.int .u64 0) (.string ⟨[dig 0].toArray⟩) < dMeas (.int .u64 ((0 : Nat) : Int)) (.string ⟨([] : List UInt8).toArray⟩) := hms
          have hcat : (⟨#[dig 0]⟩ : ByteArray) ++ ⟨#[]⟩ = ⟨#[dig 0]⟩ := strCat [dig 0] []
          go_wp2
          obtain ⟨f', v', dl', e1, e2, e3, e4, e5, e6⟩ := hstep
          exact ⟨⟨f', v', dl', congrArg (Value.int .u64) e1, congrArg Value.string e2, e3, e4, e5, e6, hB.alloc hB.size _⟩, hms0⟩
        · have hv0' : (0 : Int) < (v : Int) := by omega
          go_wp2
          obtain ⟨f', v', dl', e1, e2, e3, e4, e5, e6⟩ := hstep
          have hcat : (⟨#[dig v]⟩ : ByteArray) ++ ⟨dl.toArray⟩ = ⟨(dig v :: dl).toArray⟩ := strCat [dig v] dl
          have hdiv : (v : Int) / 10 = ((v / 10 : Nat) : Int) := by omega
          rw [hcat, hdiv]
          exact ⟨⟨f', v', dl', by rw [e1], by rw [e2], e3, e4, e5, e6, hB.alloc hB.size _⟩, hms⟩
end Go.Proofs

namespace Go.Proofs
open Go.RowKit Num
namespace Num
def val (l : List UInt8) : Int := l.foldl (fun n c => 10 * n + ((c.toNat : Int) - 48)) 0
theorem val_from : ∀ (l : List UInt8) (a : Int), l.foldl (fun n c => 10 * n + ((c.toNat : Int) - 48)) a = a * 10 ^ l.length + val l
  | [], a => by simp [val]
  | c :: l, a => by
    have h1 := val_from l (10 * a + ((c.toNat : Int) - 48))
    have h2 := val_from l (10 * 0 + ((c.toNat : Int) - 48))
    simp only [List.foldl_cons, List.length_cons, val] at *
    rw [h1, h2, Int.pow_succ]
    have : (10 * a + ((c.toNat : Int) - 48)) * 10 ^ l.length = a * (10 ^ l.length * 10) + (10 * 0 + ((c.toNat : Int) - 48)) * 10 ^ l.length := by
      rw [Int.add_mul, Int.mul_comm (10 ^ l.length) 10, ← Int.mul_assoc, Int.mul_comm a 10]
      simp
    rw [this, Int.add_assoc]
theorem val_cons (c : UInt8) (l : List UInt8) : val (c :: l) = ((c.toNat : Int) - 48) * 10 ^ l.length + val l := by
  have h := val_from l (10 * 0 + ((c.toNat : Int) - 48))
  simp only [val, List.foldl_cons] at *
  rw [h]; simp
theorem isD_bounds {c : UInt8} (h : isD c = true) : 48 ≤ (c.toNat : Int) ∧ (c.toNat : Int) ≤ 57 := by
  simp only [isD, Bool.and_eq_true, decide_eq_true_eq] at h; omega
theorem cap_from : ∀ (l : List UInt8) (v : Int), 0 ≤ v → (∀ c ∈ l, isD c = true) → l.foldl (fun n c => min (10 * n + ((c.toNat : Int) - 48)) 2147483648) (min v 2147483648) = min (l.foldl (fun n c => 10 * n + ((c.toNat : Int) - 48)) v) 2147483648
  | [], _, _, _ => rfl
  | c :: l, v, h0, h => by
    have hc := isD_bounds (h c (List.mem_cons_self ..))
    simp only [List.foldl_cons]
    have e : min (10 * min v 2147483648 + ((c.toNat : Int) - 48)) 2147483648 = min (10 * v + ((c.toNat : Int) - 48)) 2147483648 := by omega
    rw [e]
    exact cap_from l _ (by omega) fun c hc => h c (List.mem_cons_of_mem _ hc)
theorem cap_val (l : List UInt8) (h : ∀ c ∈ l, isD c = true) : cap l = min (val l) 2147483648 := cap_from l 0 (by omega) h
theorem isD_dig (u : Nat) : isD (dig u) = true := by
  have := dig_nat u
  simp only [isD, Bool.and_eq_true, decide_eq_true_eq]; omega
theorem decGo_all : ∀ (f u : Nat) (d : List UInt8), u * 10 < 10 ^ f → (∀ c ∈ d, isD c = true) → (f = 0 → d ≠ []) →
    (∀ c ∈ decGo f u d, isD c = true) ∧ decGo f u d ≠ [] ∧ (decGo f u d).length ≤ f + d.length ∧ val (decGo f u d) = (u : Int) * 10 ^ d.length + val d
  | 0, u, d, hu, hd, hne => by
    have : u = 0 := by simp at hu; omega
    subst this
    exact ⟨hd, hne rfl, by simp [decGo], by simp [decGo]⟩
  | f + 1, u, d, hu, hd, hne => by
    by_cases hs : u = 0 ∧ d ≠ []
    · obtain ⟨rfl, hs⟩ := hs
      rw [decGo_stop hs]
      exact ⟨hd, hs, by omega, by simp⟩
    · rw [decGo_step hs]
      have hu' : u / 10 * 10 < 10 ^ f := by
        rw [Nat.pow_succ] at hu
        have : u / 10 * 10 ≤ u := Nat.div_mul_le_self ..
        omega
      obtain ⟨h1, h2, h3, h4⟩ := decGo_all f (u / 10) (dig u :: d) hu' (fun c hc => by
        rcases List.mem_cons.1 hc with rfl | hc
        · exact isD_dig u
        · exact hd c hc) (fun _ => by simp)
      refine ⟨h1, h2, by simp at h3; omega, ?_⟩
      rw [h4, val_cons, dig_nat]
      have e : ((u / 10 : Nat) : Int) * 10 ^ (dig u :: d).length + (((48 + u % 10 : Nat) : Int) - 48) * 10 ^ d.length = (u : Int) * 10 ^ d.length := by
        rw [List.length_cons, Int.pow_succ, Int.mul_comm (10 ^ d.length) 10, ← Int.mul_assoc, ← Int.add_mul]
        congr 1
        omega
      rw [← Int.add_assoc, e]
theorem dec_digits (n : Int) (h0 : -9223372036854775808 ≤ n) (h1 : n ≤ 9223372036854775807) :
    (∀ c ∈ decGo 21 n.natAbs [], isD c = true) ∧ decGo 21 n.natAbs [] ≠ [] ∧ (decGo 21 n.natAbs []).length ≤ 21 ∧ cap (decGo 21 n.natAbs []) = min (n.natAbs : Int) 2147483648 := by
  obtain ⟨a, b, c, d⟩ := decGo_all 21 n.natAbs [] (by omega) (fun c hc => by cases hc) (by omega)
  refine ⟨a, b, c, ?_⟩
  rw [cap_val _ a, d]
  simp [val]
theorem takeWhile_pre {p : UInt8 → Bool} {a b : List UInt8} (h : ∀ c ∈ a, p c = true) (hb : ∀ c, b.head? = some c → p c = false) : runN p (a ++ b) = a.length := by
  refine runN_stop (fun j hj c hc => ?_) (fun c hc => ?_) (by simp)
  · rw [List.getElem?_append_left hj] at hc
    exact h c (List.mem_of_getElem? hc)
  · rw [List.getElem?_append_right (Nat.le_refl _), Nat.sub_self] at hc
    exact hb c (by rw [List.head?_eq_getElem?]; exact hc)
theorem D_notW {c : UInt8} (h : isD c = true) : isW c = false := by
  have hb := isD_bounds h
  unfold isW
  have : ∀ n : Nat, n < 48 → (c == UInt8.ofNat n) = false := fun n hn => by
    rw [beq_eq_false_iff_ne]; intro e; rw [e, UInt8.toNat_ofNat', Nat.mod_eq_of_lt (by omega)] at hb; omega
  rw [show (10 : UInt8) = UInt8.ofNat 10 from rfl, show (9 : UInt8) = UInt8.ofNat 9 from rfl, show (32 : UInt8) = UInt8.ofNat 32 from rfl, this 10 (by omega), this 9 (by omega), this 32 (by omega)]
  rfl
theorem D_notS {c : UInt8} (h : isD c = true) : isS c = false := by
  have hb := isD_bounds h
  unfold isS
  have : ∀ n : Nat, n < 48 → (c == UInt8.ofNat n) = false := fun n hn => by
    rw [beq_eq_false_iff_ne]; intro e; rw [e, UInt8.toNat_ofNat', Nat.mod_eq_of_lt (by omega)] at hb; omega
  rw [show (43 : UInt8) = UInt8.ofNat 43 from rfl, show (45 : UInt8) = UInt8.ofNat 45 from rfl, this 43 (by omega), this 45 (by omega)]
  rfl
/-- a text taken apart -/
theorem num_parts {bl sg ds tl : List UInt8} (hbl : ∀ c ∈ bl, isW c = true) (hsg : sg = [] ∨ sg = [43] ∨ sg = [45]) (hds : ∀ c ∈ ds, isD c = true) (htl : ∀ c, tl.head? = some c → isD c = false) (hne : sg = [] → ds ≠ []) :
    numV (bl ++ (sg ++ (ds ++ tl))) = intF (sg == [45]) ds ∧ numOk (bl ++ (sg ++ (ds ++ tl))) = decide (ds ≠ []) := by
  have hf : from_ (bl ++ (sg ++ (ds ++ tl))) = bl.length := by
    refine takeWhile_pre hbl fun c hc => ?_
    rcases hsg with rfl | rfl | rfl
    · cases ds with
      | nil => exact absurd rfl (hne rfl)
      | cons a ds => cases hc; exact D_notW (hds _ (List.mem_cons_self ..))
    · cases hc; rfl
    · cases hc; rfl
  have hdr : (bl ++ (sg ++ (ds ++ tl))).drop bl.length = sg ++ (ds ++ tl) := List.drop_left ..
  have hdg : digs (bl ++ (sg ++ (ds ++ tl))) = bl.length + sg.length := by
    unfold digs; rw [hf, hdr]
    rcases hsg with rfl | rfl | rfl
    · cases ds with
      | nil => exact absurd rfl (hne rfl)
      | cons a ds => simp [sgN, D_notS (hds _ (List.mem_cons_self ..))]
    · rfl
    · rfl
  have hdr2 : (bl ++ (sg ++ (ds ++ tl))).drop (bl.length + sg.length) = ds ++ tl := by
    rw [← List.drop_drop, hdr, List.drop_left]
  have hrn : runN isD (ds ++ tl) = ds.length := takeWhile_pre hds htl
  constructor
  · unfold numV
    rw [hf, hdg, hdr2, hrn, List.take_left]
    have hx : (bl ++ (sg ++ (ds ++ tl)))[bl.length]? = (sg ++ (ds ++ tl)).head? := by
      have h := List.head?_drop (l := bl ++ (sg ++ (ds ++ tl))) (i := bl.length)
      rw [hdr] at h; exact h.symm
    rw [hx]
    rcases hsg with rfl | rfl | rfl
    · cases ds with
      | nil => exact absurd rfl (hne rfl)
      | cons a ds =>
        have := D_notS (hds a (List.mem_cons_self ..))
        have h45 : (a == 45) = false := by
          unfold isS at this
          cases h : (a == 45) with
          | false => rfl
          | true => rw [h] at this; simp at this
        show intF (some a == some 45) _ = _
        rw [show (some a == some 45) = (a == 45) from rfl, h45]; rfl
    · rfl
    · rfl
  · unfold numOk end_
    rw [hdg, hdr2, hrn]
    apply decide_eq_decide.2
    cases ds with
    | nil => simp
    | cons a ds => simp
theorem intF_dec (n : Int) (h0 : -9223372036854775808 ≤ n) (h1 : n ≤ 9223372036854775807) : intF (sgL n == [45]) (decGo 21 n.natAbs []) = max (min n 2147483647) (-2147483648) := by
  obtain ⟨a, b, c, d⟩ := dec_digits n h0 h1
  unfold intF
  rw [if_neg b, d]
  by_cases hn : n < 0
  · have : (sgL n == [45]) = true := by unfold sgL; rw [if_pos hn]; rfl
    rw [this, if_pos rfl]; omega
  · have : (sgL n == [45]) = false := by unfold sgL; rw [if_neg hn]; rfl
    rw [this]; simp only [Bool.false_eq_true, if_false]; omega
end Num
end Go.Proofs

