/- A part of an executor of the model over abstract values, and what it tells of the calls. -/
import Derived.WalkKit
import Derived.Test.YtbaaogkpkgffdaaGreatDoorTl2
import Derived.BigCall
import Derived.Lib.OthersKept
namespace Go.Proofs.Num

/-! ### the number that a text begins with: pure -/
def isW (c : UInt8) : Bool := c == 10 || c == 9 || c == 32
def isS (c : UInt8) : Bool := c == 43 || c == 45
def isD (c : UInt8) : Bool := decide (48 ≤ c.toNat) && decide (c.toNat ≤ 57)
/-- as far as a kind of bytes goes -/
def runN (p : UInt8 → Bool) (l : List UInt8) : Nat := (l.takeWhile p).length
def sgN (l : List UInt8) : Nat := match l with
  | [] => 0
  | c :: _ => if isS c then 1 else 0
def from_ (l : List UInt8) : Nat := runN isW l
def digs (l : List UInt8) : Nat := from_ l + sgN (l.drop (from_ l))
def end_ (l : List UInt8) : Nat := digs l + runN isD (l.drop (digs l))
/-- digits, held to 32 binary digits -/
def cap (l : List UInt8) : Int := l.foldl (fun n c => min (10 * n + (c.toNat - 48)) 2147483648) 0
def intF (neg : Bool) (l : List UInt8) : Int := if l = [] then 0 else if neg then max (-(cap l)) (-2147483648) else min (cap l) 2147483647
def numV (l : List UInt8) : Int := intF (l[from_ l]? == some 45) ((l.drop (digs l)).take (runN isD (l.drop (digs l))))
def numOk (l : List UInt8) : Bool := decide (digs l < end_ l)

theorem runN_le (p : UInt8 → Bool) (l : List UInt8) : runN p l ≤ l.length := by
  unfold runN; exact (List.takeWhile_sublist _).length_le
theorem runN_stop {p : UInt8 → Bool} : ∀ {l : List UInt8} {k : Nat}, (∀ j, j < k → ∀ c, l[j]? = some c → p c = true) → (∀ c, l[k]? = some c → p c = false) → k ≤ l.length → runN p l = k
  | [], k, _, _, h => by simp at h; subst h; rfl
  | c :: l, 0, _, h2, _ => by
    have := h2 c rfl
    simp [runN, this]
  | c :: l, k + 1, h1, h2, h3 => by
    have hc := h1 0 (by omega) c rfl
    have := runN_stop (p := p) (l := l) (k := k) (fun j hj c hc => h1 (j + 1) (by omega) c (by simpa using hc)) (fun c hc => h2 c (by simpa using hc)) (by simpa using h3)
    simp only [runN, List.takeWhile_cons, hc, if_true, List.length_cons]
    unfold runN at this
    omega
theorem cap_bounds (l : List UInt8) (h : ∀ c ∈ l, isD c = true) : 0 ≤ cap l ∧ cap l ≤ 2147483648 := by
  unfold cap
  suffices ∀ (l : List UInt8) (n : Int), 0 ≤ n → n ≤ 2147483648 → (∀ c ∈ l, isD c = true) → 0 ≤ l.foldl (fun n c => min (10 * n + ((c.toNat : Int) - 48)) 2147483648) n ∧ l.foldl (fun n c => min (10 * n + ((c.toNat : Int) - 48)) 2147483648) n ≤ 2147483648 from this l 0 (by omega) (by omega) h
  intro l
  induction l with
  | nil => intro n h0 h1 _; exact ⟨h0, h1⟩
  | cons c l ih =>
    intro n h0 h1 h
    have hc := h c (List.mem_cons_self ..)
    simp only [isD, Bool.and_eq_true, decide_eq_true_eq] at hc
    simp only [List.foldl_cons]
    exact ih _ (by omega) (by omega) fun c hc => h c (List.mem_cons_of_mem _ hc)
theorem cap_snoc (l : List UInt8) (c : UInt8) : cap (l ++ [c]) = min (10 * cap l + (c.toNat - 48)) 2147483648 := by simp [cap]
end Go.Proofs.Num

namespace Go.Proofs
open Go.RowKit Num
set_option maxRecDepth 1000000
theorem Tryz.pwhite (r : Int) (w : World) : Calls Tryz.prog 69 #[.int .i32 r] w fun e w' => e = .returned (.bool (decide (r = 10) || decide (r = 9) || decide (r = 32))) ∧ w' = w := by
  go_enter Tryz.func69, Tryz.ntmps69
  go_wp2
  all_goals go_ret
  all_goals refine ⟨?_, rfl⟩
  all_goals first | (simp [*]; done) | (simp [*]; rw [Bool.eq_iff_iff]; simp; omega)
theorem Tryz.pdigit (r : Int) (w : World) : Calls Tryz.prog 70 #[.int .i32 r] w fun e w' => e = .returned (.bool (decide (48 ≤ r) && decide (r ≤ 57))) ∧ w' = w := by
  go_enter Tryz.func70, Tryz.ntmps70
  go_wp2
  all_goals go_ret
  all_goals refine ⟨?_, rfl⟩
  all_goals first | (simp [*]; done) | (simp [*]; omega)
theorem isW_eq (c : UInt8) : (decide ((c.toNat : Int) = 10) || decide ((c.toNat : Int) = 9) || decide ((c.toNat : Int) = 32)) = isW c := by
  unfold isW
  have h : ∀ n : Nat, n < 256 → (decide ((c.toNat : Int) = n) = (c == UInt8.ofNat n)) := fun n hn => by
    rw [Bool.eq_iff_iff]
    simp only [decide_eq_true_eq, beq_iff_eq]
    constructor
    · intro e; apply UInt8.toNat_inj.1; rw [UInt8.toNat_ofNat', Nat.mod_eq_of_lt hn]; omega
    · intro e; rw [e, UInt8.toNat_ofNat', Nat.mod_eq_of_lt hn]
  rw [show (10 : Int) = ((10 : Nat) : Int) from rfl, show (9 : Int) = ((9 : Nat) : Int) from rfl, show (32 : Int) = ((32 : Nat) : Int) from rfl, h 10 (by decide), h 9 (by decide), h 32 (by decide)]
  rfl
theorem isD_eq (c : UInt8) : (decide (48 ≤ (c.toNat : Int)) && decide ((c.toNat : Int) ≤ 57)) = isD c := by
  unfold isD
  congr 1 <;> exact decide_eq_decide.2 (by omega)
theorem byteAt (s : ByteArray) (k : Nat) (hp : k < s.size) : ∃ c, s[k]? = some c ∧ s.data.toList[k]? = some c := by
  refine ⟨s[k]'hp, by rw [getElem?_pos s k hp], ?_⟩
  rw [Array.getElem?_toList, getElem?_pos s.data k hp]; rfl

set_option maxHeartbeats 8000000 in
/-- item.Number, where token.Int does what it should -/
theorem Tryz.number_walk (s : ByteArray) (w : World) (hs : s.size ≤ 1000000)
    (hint : ∀ w', Calls Tryz.prog 71 #[.string (s.extract (from_ s.data.toList) (end_ s.data.toList))] w' fun e w2 => e = .returned (.int .i64 (numV s.data.toList)) ∧ Below w'.heap.size w' w2) :
    Calls Tryz.prog 42 #[.string s] w fun e w' => e = .returned (.tuple #[.int .i64 (numV s.data.toList), .bool (numOk s.data.toList)]) ∧ Below w.heap.size w w' := by
  have hlen : s.data.toList.length = s.size := Array.length_toList
  go_enter Tryz.func42, Tryz.ntmps42
  go_wp2
  go_loopw [4] (fun i wr => ∃ k : Nat, i = .int .i64 k ∧ k ≤ s.size ∧ (∀ j, j < k → ∀ c, s.data.toList[j]? = some c → isW c = true) ∧ wr = w) (fun i wr => s.size - (Lib.intOf i).toNat)
  case atStart => exact ⟨0, rfl, by omega, fun j hj => by omega, rfl⟩
  case round =>
    obtain ⟨k, rfl, hk, hW, rfl⟩ := hrel
    obtain ⟨w0, hw0⟩ : ∃ w0, w0 = wr := ⟨_, rfl⟩
    have h0k : (0 : Int) ≤ (k : Int) := by omega
    by_cases hp : k < s.size
    · have hp' : (k : Int) < (s.size : Int) := by omega
      obtain ⟨c, hc, hcl⟩ := byteAt s k hp
      have hix : (Instr.index 9 (.string s) (.int .i64 (k : Int))).run Tryz.prog wr = .ok (.int .u8 c.toNat) wr := by
        simp [Instr.index, asIntOf, run_underlying Tryz.underlying9, hc]
      have hwr : wrap32 (c.toNat : Int) = c.toNat := by have := c.toNat_lt; unfold wrap32; omega
      cases hcw : isW c with
      | true =>
        go_wp2_with (go_at_call 69; refine (Tryz.pwhite _ _).mono ?_; rintro e W1 ⟨rfl, rfl⟩; try rw [hwr]; try rw [isW_eq, hcw])
        go_roundw
        case rel => exact ⟨k + 1, by simp, by omega, fun j hj c' hc' => by
            rcases Nat.lt_or_ge j k with h | h
            · exact hW j h c' hc'
            · obtain rfl : j = k := by omega
              rw [hcl] at hc'; cases hc'; exact hcw, by trivial⟩
        case measure => simp [Lib.intOf]; omega
      | false =>
        have hfrom : from_ s.data.toList = k := runN_stop hW (fun c' hc' => by rw [hcl] at hc'; cases hc'; exact hcw) (by omega)
        have hdr : s.data.toList.drop k = c :: s.data.toList.drop (k + 1) := by
          rw [List.drop_eq_getElem_cons (by omega)]
          congr 1
          have := List.getElem?_eq_getElem (l := s.data.toList) (i := k) (by omega)
          rw [hcl] at this
          exact (Option.some.inj this).symm
        have hu : ∀ n : Nat, n < 256 → ((c.toNat : Int) = n ↔ (c == UInt8.ofNat n) = true) := fun n hn => by
          rw [beq_iff_eq]
          constructor
          · intro e; apply UInt8.toNat_inj.1; rw [UInt8.toNat_ofNat', Nat.mod_eq_of_lt hn]; omega
          · intro e; rw [e, UInt8.toNat_ofNat', Nat.mod_eq_of_lt hn]
        by_cases h43 : (c.toNat : Int) = 43
        · have hsg : isS c = true := by
            have e : c = 43 := by simpa using (hu 43 (by decide)).1 h43
            rw [e]; rfl
          have hdg : digs s.data.toList = k + 1 := by unfold digs; rw [hfrom, hdr]; simp [sgN, hsg]
          go_wp2_with (go_at_call 69; refine (Tryz.pwhite _ _).mono ?_; rintro e W1 ⟨rfl, rfl⟩; try rw [hwr]; try rw [isW_eq, hcw])
          go_loopw [4] (fun i wr => ∃ p : Nat, i = .int .i64 (p : Int) ∧ (k + 1) ≤ p ∧ p ≤ s.size ∧ (∀ j, (k + 1) ≤ j → j < p → ∀ c, s.data.toList[j]? = some c → isD c = true) ∧ wr = w0) (fun i wr => s.size - (Lib.intOf i).toNat)
          case atStart => exact ⟨k + 1, by simp, by omega, by omega, fun j h1 h2 => by omega, hw0.symm⟩
          case round =>
            obtain ⟨p, rfl, hq, hm, hD, rfl⟩ := hrel
            have fin : p = s.size ∨ (∃ c, s.data.toList[p]? = some c ∧ isD c = false) → end_ s.data.toList = p := by
              intro h
              unfold end_
              rw [hdg, runN_stop (k := p - (k + 1)) (fun j hj c hc => ?_) (fun c hc => ?_) (by simp; omega)]
              · omega
              · rw [List.getElem?_drop] at hc
                exact hD _ (by omega) (by omega) c hc
              · rw [List.getElem?_drop, show (k + 1) + (p - (k + 1)) = p by omega] at hc
                rcases h with h | ⟨c', hc', h⟩
                · rw [List.getElem?_eq_none (by omega)] at hc; cases hc
                · rw [hc'] at hc; cases hc; exact h
            have h0p : (0 : Int) ≤ (p : Int) := by omega
            have hkp : (k : Int) ≤ (p : Int) := by omega
            have hps : (p : Int) ≤ (s.size : Int) := by omega
            have hkp' : k ≤ p := by omega
            by_cases hp2 : p < s.size
            · have hp2' : (p : Int) < (s.size : Int) := by omega
              obtain ⟨d, hd, hdl⟩ := byteAt s p hp2
              obtain rfl : s[p]'hp2 = d := by have h := hd; rw [getElem?_pos s p hp2] at h; exact Option.some.inj h
              have hix2 : (Instr.index 9 (.string s) (.int .i64 (p : Int))).run Tryz.prog wr = .ok (.int .u8 (s[p]'hp2).toNat) wr := by
                simp [Instr.index, asIntOf, run_underlying Tryz.underlying9, hd]
              have hwd : wrap32 ((s[p]'hp2).toNat : Int) = (s[p]'hp2).toNat := by have := UInt8.toNat_lt (s[p]'hp2); unfold wrap32; omega
              cases hdd : isD (s[p]'hp2) with
              | true =>
                go_wp2_with (go_at_call 70; refine (Tryz.pdigit _ _).mono ?_; rintro e W1 ⟨rfl, rfl⟩; try rw [hwd]; try rw [isD_eq, hdd])
                go_roundw
                case rel => exact ⟨p + 1, by simp, by omega, by omega, fun j h1 h2 c hc => by
                    rcases Nat.lt_or_ge j p with h | h
                    · exact hD j h1 h c hc
                    · obtain rfl : j = p := by omega
                      rw [hdl] at hc; cases hc; exact hdd, by first | trivial | assumption | exact hw0 | exact hw0.symm⟩
                case measure => simp [Lib.intOf]; omega
              | false =>
                have he := fin (.inr ⟨_, hdl, hdd⟩)
                have hint2 : ∀ w', Calls Tryz.prog 71 #[.string (s.extract k p)] w' fun e w2 => e = .returned (.int .i64 (numV s.data.toList)) ∧ Below w'.heap.size w' w2 := by
                  rw [← he, ← hfrom]; exact hint
                have hoq : decide ((k : Int) + 1 < (p : Int)) = decide (k + 1 < p) := decide_eq_decide.2 (by omega)
                go_wp2_with (first | (go_at_call 70; refine (Tryz.pdigit _ _).mono ?_; rintro e W1 ⟨rfl, rfl⟩; try rw [hwd]; try rw [isD_eq, hdd]) | (go_at_call 71; refine (hint2 _).mono ?_; rintro e W1 ⟨rfl, hb1⟩))
                go_ret2
                exact ⟨by unfold numOk; rw [hdg, he]; first | done | rfl | (simp [hoq]; done), hb1⟩
            · have hp2' : ¬ (p : Int) < (s.size : Int) := by omega
              have he := fin (.inl (by omega))
              have hint2 : ∀ w', Calls Tryz.prog 71 #[.string (s.extract k p)] w' fun e w2 => e = .returned (.int .i64 (numV s.data.toList)) ∧ Below w'.heap.size w' w2 := by
                rw [← he, ← hfrom]; exact hint
              have hoq : decide ((k : Int) + 1 < (p : Int)) = decide (k + 1 < p) := decide_eq_decide.2 (by omega)
              go_wp2_with (first | (go_at_call 70; refine (Tryz.pdigit _ _).mono ?_; rintro e W1 ⟨rfl, rfl⟩; try rw [hwd]; try rw [isD_eq, hdd]) | (go_at_call 71; refine (hint2 _).mono ?_; rintro e W1 ⟨rfl, hb1⟩))
              go_ret2
              exact ⟨by unfold numOk; rw [hdg, he]; first | done | rfl | (simp [hoq]; done), hb1⟩
        · by_cases h45 : (c.toNat : Int) = 45
          · have hsg : isS c = true := by
              have e : c = 45 := by simpa using (hu 45 (by decide)).1 h45
              rw [e]; rfl
            have hdg : digs s.data.toList = k + 1 := by unfold digs; rw [hfrom, hdr]; simp [sgN, hsg]
            go_wp2_with (go_at_call 69; refine (Tryz.pwhite _ _).mono ?_; rintro e W1 ⟨rfl, rfl⟩; try rw [hwr]; try rw [isW_eq, hcw])
            go_loopw [4] (fun i wr => ∃ p : Nat, i = .int .i64 (p : Int) ∧ (k + 1) ≤ p ∧ p ≤ s.size ∧ (∀ j, (k + 1) ≤ j → j < p → ∀ c, s.data.toList[j]? = some c → isD c = true) ∧ wr = w0) (fun i wr => s.size - (Lib.intOf i).toNat)
            case atStart => exact ⟨k + 1, by simp, by omega, by omega, fun j h1 h2 => by omega, hw0.symm⟩
            case round =>
              obtain ⟨p, rfl, hq, hm, hD, rfl⟩ := hrel
              have fin : p = s.size ∨ (∃ c, s.data.toList[p]? = some c ∧ isD c = false) → end_ s.data.toList = p := by
                intro h
                unfold end_
                rw [hdg, runN_stop (k := p - (k + 1)) (fun j hj c hc => ?_) (fun c hc => ?_) (by simp; omega)]
                · omega
                · rw [List.getElem?_drop] at hc
                  exact hD _ (by omega) (by omega) c hc
                · rw [List.getElem?_drop, show (k + 1) + (p - (k + 1)) = p by omega] at hc
                  rcases h with h | ⟨c', hc', h⟩
                  · rw [List.getElem?_eq_none (by omega)] at hc; cases hc
                  · rw [hc'] at hc; cases hc; exact h
              have h0p : (0 : Int) ≤ (p : Int) := by omega
              have hkp : (k : Int) ≤ (p : Int) := by omega
              have hps : (p : Int) ≤ (s.size : Int) := by omega
              have hkp' : k ≤ p := by omega
              by_cases hp2 : p < s.size
              · have hp2' : (p : Int) < (s.size : Int) := by omega
                obtain ⟨d, hd, hdl⟩ := byteAt s p hp2
                obtain rfl : s[p]'hp2 = d := by have h := hd; rw [getElem?_pos s p hp2] at h; exact Option.some.inj h
                have hix2 : (Instr.index 9 (.string s) (.int .i64 (p : Int))).run Tryz.prog wr = .ok (.int .u8 (s[p]'hp2).toNat) wr := by
                  simp [Instr.index, asIntOf, run_underlying Tryz.underlying9, hd]
                have hwd : wrap32 ((s[p]'hp2).toNat : Int) = (s[p]'hp2).toNat := by have := UInt8.toNat_lt (s[p]'hp2); unfold wrap32; omega
                cases hdd : isD (s[p]'hp2) with
                | true =>
                  go_wp2_with (go_at_call 70; refine (Tryz.pdigit _ _).mono ?_; rintro e W1 ⟨rfl, rfl⟩; try rw [hwd]; try rw [isD_eq, hdd])
                  go_roundw
                  case rel => exact ⟨p + 1, by simp, by omega, by omega, fun j h1 h2 c hc => by
                      rcases Nat.lt_or_ge j p with h | h
                      · exact hD j h1 h c hc
                      · obtain rfl : j = p := by omega
                        rw [hdl] at hc; cases hc; exact hdd, by first | trivial | assumption | exact hw0 | exact hw0.symm⟩
                  case measure => simp [Lib.intOf]; omega
                | false =>
                  have he := fin (.inr ⟨_, hdl, hdd⟩)
                  have hint2 : ∀ w', Calls Tryz.prog 71 #[.string (s.extract k p)] w' fun e w2 => e = .returned (.int .i64 (numV s.data.toList)) ∧ Below w'.heap.size w' w2 := by
                    rw [← he, ← hfrom]; exact hint
                  have hoq : decide ((k : Int) + 1 < (p : Int)) = decide (k + 1 < p) := decide_eq_decide.2 (by omega)
                  go_wp2_with (first | (go_at_call 70; refine (Tryz.pdigit _ _).mono ?_; rintro e W1 ⟨rfl, rfl⟩; try rw [hwd]; try rw [isD_eq, hdd]) | (go_at_call 71; refine (hint2 _).mono ?_; rintro e W1 ⟨rfl, hb1⟩))
                  go_ret2
                  exact ⟨by unfold numOk; rw [hdg, he]; first | done | rfl | (simp [hoq]; done), hb1⟩
              · have hp2' : ¬ (p : Int) < (s.size : Int) := by omega
                have he := fin (.inl (by omega))
                have hint2 : ∀ w', Calls Tryz.prog 71 #[.string (s.extract k p)] w' fun e w2 => e = .returned (.int .i64 (numV s.data.toList)) ∧ Below w'.heap.size w' w2 := by
                  rw [← he, ← hfrom]; exact hint
                have hoq : decide ((k : Int) + 1 < (p : Int)) = decide (k + 1 < p) := decide_eq_decide.2 (by omega)
                go_wp2_with (first | (go_at_call 70; refine (Tryz.pdigit _ _).mono ?_; rintro e W1 ⟨rfl, rfl⟩; try rw [hwd]; try rw [isD_eq, hdd]) | (go_at_call 71; refine (hint2 _).mono ?_; rintro e W1 ⟨rfl, hb1⟩))
                go_ret2
                exact ⟨by unfold numOk; rw [hdg, he]; first | done | rfl | (simp [hoq]; done), hb1⟩
          · have hsg : isS c = false := by
              unfold isS
              cases h1 : (c == 43) with
              | true => exact absurd ((hu 43 (by decide)).2 h1) h43
              | false => cases h2 : (c == 45) with
                | true => exact absurd ((hu 45 (by decide)).2 h2) h45
                | false => rfl
            have hdg : digs s.data.toList = k := by unfold digs; rw [hfrom, hdr]; simp [sgN, hsg]
            have hb43 : ((c.toNat : Int) == 43) = false := by simpa using h43
            have hb45 : ((c.toNat : Int) == 45) = false := by simpa using h45
            go_wp2_with (go_at_call 69; refine (Tryz.pwhite _ _).mono ?_; rintro e W1 ⟨rfl, rfl⟩; try rw [hwr]; try rw [isW_eq, hcw])
            go_loopw [4] (fun i wr => ∃ p : Nat, i = .int .i64 (p : Int) ∧ (k) ≤ p ∧ p ≤ s.size ∧ (∀ j, (k) ≤ j → j < p → ∀ c, s.data.toList[j]? = some c → isD c = true) ∧ wr = w0) (fun i wr => s.size - (Lib.intOf i).toNat)
            case atStart => exact ⟨k, by simp, by omega, by omega, fun j h1 h2 => by omega, hw0.symm⟩
            case round =>
              obtain ⟨p, rfl, hq, hm, hD, rfl⟩ := hrel
              have fin : p = s.size ∨ (∃ c, s.data.toList[p]? = some c ∧ isD c = false) → end_ s.data.toList = p := by
                intro h
                unfold end_
                rw [hdg, runN_stop (k := p - (k)) (fun j hj c hc => ?_) (fun c hc => ?_) (by simp; omega)]
                · omega
                · rw [List.getElem?_drop] at hc
                  exact hD _ (by omega) (by omega) c hc
                · rw [List.getElem?_drop, show (k) + (p - (k)) = p by omega] at hc
                  rcases h with h | ⟨c', hc', h⟩
                  · rw [List.getElem?_eq_none (by omega)] at hc; cases hc
                  · rw [hc'] at hc; cases hc; exact h
              have h0p : (0 : Int) ≤ (p : Int) := by omega
              have hkp : (k : Int) ≤ (p : Int) := by omega
              have hps : (p : Int) ≤ (s.size : Int) := by omega
              have hkp' : k ≤ p := by omega
              by_cases hp2 : p < s.size
              · have hp2' : (p : Int) < (s.size : Int) := by omega
                obtain ⟨d, hd, hdl⟩ := byteAt s p hp2
                obtain rfl : s[p]'hp2 = d := by have h := hd; rw [getElem?_pos s p hp2] at h; exact Option.some.inj h
                have hix2 : (Instr.index 9 (.string s) (.int .i64 (p : Int))).run Tryz.prog wr = .ok (.int .u8 (s[p]'hp2).toNat) wr := by
                  simp [Instr.index, asIntOf, run_underlying Tryz.underlying9, hd]
                have hwd : wrap32 ((s[p]'hp2).toNat : Int) = (s[p]'hp2).toNat := by have := UInt8.toNat_lt (s[p]'hp2); unfold wrap32; omega
                cases hdd : isD (s[p]'hp2) with
                | true =>
                  go_wp2_with (go_at_call 70; refine (Tryz.pdigit _ _).mono ?_; rintro e W1 ⟨rfl, rfl⟩; try rw [hwd]; try rw [isD_eq, hdd])
                  go_roundw
                  case rel => exact ⟨p + 1, by simp, by omega, by omega, fun j h1 h2 c hc => by
                      rcases Nat.lt_or_ge j p with h | h
                      · exact hD j h1 h c hc
                      · obtain rfl : j = p := by omega
                        rw [hdl] at hc; cases hc; exact hdd, by first | trivial | assumption | exact hw0 | exact hw0.symm⟩
                  case measure => simp [Lib.intOf]; omega
                | false =>
                  have he := fin (.inr ⟨_, hdl, hdd⟩)
                  have hint2 : ∀ w', Calls Tryz.prog 71 #[.string (s.extract k p)] w' fun e w2 => e = .returned (.int .i64 (numV s.data.toList)) ∧ Below w'.heap.size w' w2 := by
                    rw [← he, ← hfrom]; exact hint
                  have hoq : decide ((k : Int) + 1 < (p : Int)) = decide (k + 1 < p) := decide_eq_decide.2 (by omega)
                  go_wp2_with (first | (go_at_call 70; refine (Tryz.pdigit _ _).mono ?_; rintro e W1 ⟨rfl, rfl⟩; try rw [hwd]; try rw [isD_eq, hdd]) | (go_at_call 71; refine (hint2 _).mono ?_; rintro e W1 ⟨rfl, hb1⟩))
                  go_ret2
                  exact ⟨by unfold numOk; rw [hdg, he]; first | done | rfl | (simp [hoq]; done), hb1⟩
              · have hp2' : ¬ (p : Int) < (s.size : Int) := by omega
                have he := fin (.inl (by omega))
                have hint2 : ∀ w', Calls Tryz.prog 71 #[.string (s.extract k p)] w' fun e w2 => e = .returned (.int .i64 (numV s.data.toList)) ∧ Below w'.heap.size w' w2 := by
                  rw [← he, ← hfrom]; exact hint
                have hoq : decide ((k : Int) + 1 < (p : Int)) = decide (k + 1 < p) := decide_eq_decide.2 (by omega)
                go_wp2_with (first | (go_at_call 70; refine (Tryz.pdigit _ _).mono ?_; rintro e W1 ⟨rfl, rfl⟩; try rw [hwd]; try rw [isD_eq, hdd]) | (go_at_call 71; refine (hint2 _).mono ?_; rintro e W1 ⟨rfl, hb1⟩))
                go_ret2
                exact ⟨by unfold numOk; rw [hdg, he]; first | done | rfl | (simp [hoq]; done), hb1⟩
    · have hp' : ¬ (k : Int) < (s.size : Int) := by omega
      have hfrom : from_ s.data.toList = k := runN_stop hW (fun c' hc' => by rw [List.getElem?_eq_none (by omega)] at hc'; cases hc') (by omega)
      have hdg : digs s.data.toList = k := by
        unfold digs; rw [hfrom, List.drop_eq_nil_of_le (by omega)]; rfl
      go_wp2
      go_loopw [4] (fun i wr => ∃ p : Nat, i = .int .i64 (p : Int) ∧ (k) ≤ p ∧ p ≤ s.size ∧ (∀ j, (k) ≤ j → j < p → ∀ c, s.data.toList[j]? = some c → isD c = true) ∧ wr = w0) (fun i wr => s.size - (Lib.intOf i).toNat)
      case atStart => exact ⟨k, by simp, by omega, by omega, fun j h1 h2 => by omega, hw0.symm⟩
      case round =>
        obtain ⟨p, rfl, hq, hm, hD, rfl⟩ := hrel
        have fin : p = s.size ∨ (∃ c, s.data.toList[p]? = some c ∧ isD c = false) → end_ s.data.toList = p := by
          intro h
          unfold end_
          rw [hdg, runN_stop (k := p - (k)) (fun j hj c hc => ?_) (fun c hc => ?_) (by simp; omega)]
          · omega
          · rw [List.getElem?_drop] at hc
            exact hD _ (by omega) (by omega) c hc
          · rw [List.getElem?_drop, show (k) + (p - (k)) = p by omega] at hc
            rcases h with h | ⟨c', hc', h⟩
            · rw [List.getElem?_eq_none (by omega)] at hc; cases hc
            · rw [hc'] at hc; cases hc; exact h
        have h0p : (0 : Int) ≤ (p : Int) := by omega
        have hkp : (k : Int) ≤ (p : Int) := by omega
        have hps : (p : Int) ≤ (s.size : Int) := by omega
        have hkp' : k ≤ p := by omega
        have hp2 : ¬ p < s.size := by omega
        · have hp2' : ¬ (p : Int) < (s.size : Int) := by omega
          have he := fin (.inl (by omega))
          have hint2 : ∀ w', Calls Tryz.prog 71 #[.string (s.extract k p)] w' fun e w2 => e = .returned (.int .i64 (numV s.data.toList)) ∧ Below w'.heap.size w' w2 := by
            rw [← he, ← hfrom]; exact hint
          have hoq : decide ((k : Int) + 1 < (p : Int)) = decide (k + 1 < p) := decide_eq_decide.2 (by omega)
          go_wp2_with (first | (go_at_call 70; refine (Tryz.pdigit _ _).mono ?_; rintro e W1 ⟨rfl, rfl⟩; try rw [hwd]; try rw [isD_eq, hdd]) | (go_at_call 71; refine (hint2 _).mono ?_; rintro e W1 ⟨rfl, hb1⟩))
          go_ret2
          exact ⟨by unfold numOk; rw [hdg, he]; first | done | rfl | (simp [hoq]; done), hb1⟩
end Go.Proofs

namespace Go.Proofs
open Go.RowKit Num
set_option maxRecDepth 1000000

theorem trim_sign (sg ds : List UInt8) (hsg : sg = [] ∨ sg = [43] ∨ sg = [45]) (hds : ∀ c ∈ ds, isD c = true) : Lib.trimLeftS (sg ++ ds) [43, 45] = ds := by
  have h0 : ds.dropWhile (fun b => [43, 45].contains b) = ds := by
    cases ds with
    | nil => rfl
    | cons c l =>
      have hc := hds c (List.mem_cons_self ..)
      simp only [isD, Bool.and_eq_true, decide_eq_true_eq] at hc
      have h1 : ¬ c = 43 := fun e => by rw [e] at hc; exact absurd hc.1 (by decide)
      have h2 : ¬ c = 45 := fun e => by rw [e] at hc; exact absurd hc.1 (by decide)
      rw [List.dropWhile_cons]
      simp [h1, h2]
  unfold Lib.trimLeftS
  rcases hsg with rfl | rfl | rfl
  · exact h0
  · rw [List.cons_append, List.dropWhile_cons]; simpa using h0
  · rw [List.cons_append, List.dropWhile_cons]; simpa using h0
theorem Tryz.trim_pm (s : ByteArray) (w : World) : Calls Tryz.prog 107 #[.string s, .string ⟨#[43, 45]⟩] w fun e w' => e = .returned (.string ⟨(Lib.trimLeftS s.data.toList [43, 45]).toArray⟩) ∧ Below w.heap.size w w' :=
  Any.strings_TrimLeft_laid Tryz.lays161 (by kernel_rfl) s ⟨#[43, 45]⟩ w (by decide) (fun j b hb => by
    have : b ∈ [(43 : UInt8), 45] := List.mem_of_getElem? hb
    simp at this; rcases this with rfl | rfl <;> decide)

theorem w64a (x : Int) (h0 : 0 ≤ x) (h1 : x ≤ 2147483648) : wrap64 (10 * x) = 10 * x := by unfold wrap64; omega
theorem w64b (x d : Int) (h0 : 0 ≤ x) (h1 : x ≤ 2147483648) (h2 : 48 ≤ d) (h3 : d ≤ 57) : wrap64 (10 * x + (d - 48)) = 10 * x + (d - 48) := by unfold wrap64; omega
theorem w64n (x : Int) (h0 : 0 ≤ x) (h1 : x ≤ 2147483648) : wrap64 (-x) = -x := by unfold wrap64; omega
theorem w32a (d : Int) (h2 : 48 ≤ d) (h3 : d ≤ 57) : wrap32 (d - 48) = d - 48 := by unfold wrap32; omega
theorem w32b (d : Int) (h2 : 48 ≤ d) (h3 : d ≤ 57) : wrap32 d = d := by unfold wrap32; omega
theorem mxmn (x : Int) : max (-x) (-2147483648) = -min x 2147483648 := by omega
def CapIs (l : List UInt8) (x : Int) : Prop := cap l = x
theorem CapIs.nil : CapIs [] 0 := rfl
theorem CapIs.snoc {ds : List UInt8} {p : Nat} {x : Int} {d : UInt8} (h : CapIs (ds.take p) x) (hcl : ds[p]? = some d) : CapIs (ds.take (p + 1)) (min (10 * x + ((d.toNat : Int) - 48)) 2147483648) := by
  unfold CapIs at *
  rw [List.take_add_one, hcl, ← h]; exact cap_snoc _ _
theorem CapIs.neg {ds : List UInt8} {x : Int} (h : CapIs ds x) (hne : ds ≠ []) : intF true ds = -min x 2147483648 := by
  unfold CapIs at h
  rw [← mxmn, ← h]; unfold intF; rw [if_neg hne]; rfl
theorem CapIs.pos {ds : List UInt8} {x : Int} (h : CapIs ds x) (hne : ds ≠ []) : intF false ds = min x 2147483647 := by
  unfold CapIs at h
  rw [← h]; unfold intF; rw [if_neg hne]; rfl
theorem list_size (s : ByteArray) : s.size = s.data.toList.length := Array.length_toList.symm
set_option maxHeartbeats 8000000 in
/-- token.Int, where strings.TrimLeft has cut the sign -/
theorem Tryz.int_walk0 (s dd : ByteArray) (ds : List UInt8) (neg : Bool) (w : World) (htrim : ∀ w, Calls Tryz.prog 107 #[.string s, .string ⟨#[43, 45]⟩] w fun e w' => e = .returned (.string dd) ∧ Below w.heap.size w w')
    (hddl : dd.data.toList = ds) (hds : ∀ c ∈ ds, isD c = true) (hlen : dd.size ≤ 1000) (h1 : dd.size ≤ s.size) (h2 : s.size ≤ dd.size + 1) (hneg : ∀ c, s[0]? = some c → (c == 45) = neg) :
    Calls Tryz.prog 71 #[.string s] w fun e w' => e = .returned (.int .i64 (intF neg ds)) ∧ Below w.heap.size w w' := by
  have hw64 : wrap64 ((s.size : Int) - (dd.size : Int)) = (s.size : Int) - (dd.size : Int) := by unfold wrap64; omega
  have hle1 : ¬ (1 : Int) < (s.size : Int) - (dd.size : Int) := by omega
  by_cases hemp : dd.toList = []
  · have hds0 : ds = [] := by rw [Go.ByteArray.toList_eq] at hemp; rw [← hddl, hemp]
    have hres : intF neg ds = 0 := by rw [hds0]; rfl
    go_enter Tryz.func71, Tryz.ntmps71
    go_wp2_with (go_at_call 107; refine (htrim _).mono ?_; rintro e W1 ⟨rfl, hb1⟩)
    go_ret
    rw [hres]
    exact ⟨rfl, hb1⟩
  · have hdl : dd.data.toList.length = dd.size := (list_size dd).symm
    have hemp' : (dd.toList == []) = false := by simpa using hemp
    have hdne : ds ≠ [] := fun e => hemp (by rw [Go.ByteArray.toList_eq, hddl, e])
    have hsp : 0 < s.size := by
      have : 0 < ds.length := List.length_pos_iff.2 hdne
      rw [hddl] at hdl; omega
    obtain ⟨c0, hc0, _⟩ := byteAt s 0 hsp
    have hix0 : ∀ W, (Instr.index 9 (.string s) (.int .i64 0)).run Tryz.prog W = .ok (.int .u8 c0.toNat) W := fun W => by
      simp [Instr.index, asIntOf, run_underlying Tryz.underlying9, hc0]
    have hc0n := hneg c0 hc0
    have h45 : ((c0.toNat : Int) == 45) = neg := by
      rw [← hc0n, Bool.eq_iff_iff]
      simp only [beq_iff_eq]
      constructor
      · intro e; apply UInt8.toNat_inj.1; rw [show (45 : UInt8).toNat = 45 from rfl]; omega
      · intro e; rw [e]; rfl
    go_enter Tryz.func71, Tryz.ntmps71
    go_wp2_with (go_at_call 107; refine (htrim _).mono ?_; rintro e W1 ⟨rfl, hb1⟩)
    go_loopw [4, 6] (fun n _ wr => ∃ (p : Nat) (x : Int), n = .int .i64 x ∧ CapIs (ds.take p) x ∧ 0 ≤ x ∧ x ≤ 2147483648 ∧ p ≤ dd.size ∧ wr.heap[W1.heap.size]? = some (.stringIter dd p) ∧ Below W1.heap.size W1 wr) (fun _ _ wr => dd.size - wr.iterPos W1.heap.size)
    case atStart => exact ⟨0, 0, rfl, CapIs.nil, by omega, by omega, Nat.zero_le _, World.iter_heap W1 dd 0, (Below.refl _ W1).alloc (Nat.le_refl _) _⟩
    case round =>
      obtain ⟨p, x, rfl, hx, hx0, hx1, hp, hk, hB⟩ := hrel
      by_cases hpl : p < dd.size
      · have hcl : ds[p]? = some (dd[p]'hpl) := by
          rw [← hddl, Array.getElem?_toList, getElem?_pos dd.data p hpl]; rfl
        have hcd := hds _ (List.mem_of_getElem? hcl)
        have hcd2 := hcd
        simp only [isD, Bool.and_eq_true, decide_eq_true_eq] at hcd2
        have hnext : ∀ ty, (Instr.next (.pointer (some ⟨W1.heap.size, 0, none⟩)) true ty).run Tryz.prog wr = _ := fun ty => Lib.run_next_ascii_at wr W1.heap.size dd p ty hk hpl (by omega)
        have hk1 := Lib.iterAt_heap wr W1.heap.size dd p (p + 1) hk
        have hB1 : Below W1.heap.size W1 (wr.iterAt W1.heap.size dd (p + 1)) := Lib.below_iterAt hB (Nat.le_refl _) dd (p + 1)
        have hmu : wr.iterPos W1.heap.size = p := by simp [World.iterPos, hk]
        generalize wr.iterAt W1.heap.size dd (p + 1) = W2 at hnext hk1 hB1
        have hmu2 : W2.iterPos W1.heap.size = p + 1 := by simp [World.iterPos, hk1]
        generalize dd[p]'hpl = d at *
        have hx2 := hx.snoc hcl
        have hwd : wrap32 (d.toNat : Int) = d.toNat := w32b _ (by omega) (by omega)
        have hm32 : wrap32 ((d.toNat : Int) - 48) = (d.toNat : Int) - 48 := w32a _ (by omega) (by omega)
        have hm64 : wrap64 (10 * x) = 10 * x := w64a _ hx0 hx1
        have ha64 : wrap64 (10 * x + ((d.toNat : Int) - 48)) = 10 * x + ((d.toNat : Int) - 48) := w64b _ _ hx0 hx1 (by omega) (by omega)
        go_wp2_with (go_at_call 70; refine (Tryz.pdigit _ _).mono ?_; rintro e W3 ⟨rfl, rfl⟩; try rw [isD_eq, hcd])
        exact ⟨⟨p + 1, _, rfl, hx2, by omega, by omega, by omega, hk1, hB1⟩, by rw [hmu, hmu2]; omega⟩
      · have hpe : p = dd.size := by omega
        have hall : ds.take p = ds := by rw [List.take_of_length_le]; rw [← hddl, hdl]; omega
        have hnext : ∀ ty, (Instr.next (.pointer (some ⟨W1.heap.size, 0, none⟩)) true ty).run Tryz.prog wr = _ := fun ty => Lib.run_next_end_at wr W1.heap.size dd p ty hk hpl
        rw [hall] at hx
        cases neg with
        | true =>
          have hng : wrap64 (-x) = -x := w64n _ hx0 hx1
          have hr := hx.neg hdne
          clear hds hddl hall hx
          go_wp2
          go_ret
          rw [hr]
          exact ⟨rfl, hb1.trans (hB.mono hb1.size)⟩
        | false =>
          have hr := hx.pos hdne
          clear hds hddl hall hx
          go_wp2
          go_ret
          rw [hr]
          exact ⟨rfl, hb1.trans (hB.mono hb1.size)⟩
end Go.Proofs

namespace Go.Proofs
open Go.RowKit Num
theorem extract_list (s : ByteArray) (a e : Nat) : (s.extract a e).data.toList = (s.data.toList.drop a).take (e - a) := by
  simp [ByteArray.data_extract, List.extract]
theorem sgN_cases (l : List UInt8) : (sgN l = 0 ∧ ∀ c, l.head? = some c → isS c = false) ∨ (sgN l = 1 ∧ ∃ c r, l = c :: r ∧ (c = 43 ∨ c = 45)) := by
  cases l with
  | nil => exact .inl ⟨rfl, fun c h => by cases h⟩
  | cons c r =>
    cases h : isS c with
    | true =>
      refine .inr ⟨by simp [sgN, h], c, r, rfl, ?_⟩
      simpa [isS] using h
    | false => exact .inl ⟨by simp [sgN, h], fun c' h' => by cases h'; exact h⟩
theorem mem_tw {p : UInt8 → Bool} {l : List UInt8} {c : UInt8} (h : c ∈ l.takeWhile p) : p c = true := by
  induction l with
  | nil => cases h
  | cons a l ih =>
    rw [List.takeWhile_cons] at h
    split at h
    · rename_i ha
      rcases List.mem_cons.1 h with rfl | h
      · exact ha
      · exact ih h
    · cases h
theorem Tryz.number (s : ByteArray) (w : World) (hs : s.size ≤ 900) :
    Calls Tryz.prog 42 #[.string s] w fun e w' => e = .returned (.tuple #[.int .i64 (numV s.data.toList), .bool (numOk s.data.toList)]) ∧ Below w.heap.size w w' := by
  have hlen : s.data.toList.length = s.size := Array.length_toList
  refine Tryz.number_walk s w (by omega) fun w' => ?_
  generalize hl : s.data.toList = l at *
  have hrest : l.drop (from_ l) = l.drop (from_ l) := rfl
  -- the sign, and the digits
  obtain ⟨ds, hdsd⟩ : ∃ ds, ds = (l.drop (digs l)).take (Num.runN isD (l.drop (digs l))) := ⟨_, rfl⟩
  have hdig : ∀ c ∈ ds, isD c = true := by
    intro c hc
    rw [hdsd] at hc
    have : (l.drop (digs l)).take (Num.runN isD (l.drop (digs l))) = (l.drop (digs l)).takeWhile isD := by
      unfold Num.runN
      exact (List.prefix_iff_eq_take.1 (List.takeWhile_prefix _)).symm
    rw [this] at hc
    exact mem_tw hc
  have hrun := runN_le isD (l.drop (digs l))
  have hdl : ds.length = Num.runN isD (l.drop (digs l)) := by rw [hdsd, List.length_take]; omega
  have hfl := runN_le isW l
  obtain ⟨sg, hsgd, hcat⟩ : ∃ sg, (sg = [] ∧ (l[from_ l]? == some 45) = (sg == [45]) ∨ (sg = [43] ∨ sg = [45]) ∧ (l[from_ l]? == some 45) = (sg == [45])) ∧ (l.drop (from_ l)).take (end_ l - from_ l) = sg ++ ds := by
    rcases sgN_cases (l.drop (from_ l)) with ⟨h0, hne⟩ | ⟨h1, c, r, hcr, hc⟩
    · have hd : digs l = from_ l := by unfold digs; omega
      refine ⟨[], .inl ⟨rfl, ?_⟩, ?_⟩
      · rw [show (([] : List UInt8) == [45]) = false from rfl]
        rw [List.head?_drop] at hne
        cases hx : l[from_ l]? with
        | none => rfl
        | some c =>
          have := hne c hx
          have h45 : c ≠ 45 := fun e => by rw [e] at this; cases this
          simpa using h45
      · rw [List.nil_append, hdsd, hd]; unfold end_; rw [hd]; congr 1; omega
    · have hd : digs l = from_ l + 1 := by unfold digs; omega
      have hr : r = l.drop (from_ l + 1) := by rw [← List.drop_drop, hcr]; rfl
      have hx : l[from_ l]? = some c := by rw [← List.head?_drop, hcr]; rfl
      refine ⟨[c], .inr ⟨by rcases hc with rfl | rfl; exact .inl rfl; exact .inr rfl, ?_⟩, ?_⟩
      · rw [hx]; rcases hc with rfl | rfl <;> rfl
      · rw [hcr, hdsd, hd]; unfold end_; rw [hd, show from_ l + 1 + Num.runN isD (l.drop (from_ l + 1)) - from_ l = Num.runN isD (l.drop (from_ l + 1)) + 1 by omega, List.take_succ_cons, hr]; rfl
  have hval : numV l = intF (sg == [45]) ds := by
    unfold numV; rw [← hdsd]
    rcases hsgd with ⟨_, h⟩ | ⟨_, h⟩ <;> rw [h]
  have hdll : ds.length ≤ 900 := by
    rw [hdl]; rw [List.length_drop] at hrun; omega
  have htl : (s.extract (from_ l) (end_ l)).data.toList = sg ++ ds := by rw [extract_list, hl, hcat]
  have hsz : (s.extract (from_ l) (end_ l)).size = sg.length + ds.length := by rw [list_size, htl, List.length_append]
  have hsg3 : sg = [] ∨ sg = [43] ∨ sg = [45] := by rcases hsgd with ⟨h, _⟩ | ⟨h, _⟩; exact .inl h; exact .inr h
  have hsgl : sg.length ≤ 1 := by rcases hsg3 with rfl | rfl | rfl <;> decide
  have htrim := fun w => Tryz.trim_pm (s.extract (from_ l) (end_ l)) w
  rw [htl, trim_sign sg ds hsg3 hdig] at htrim
  have hdsz : ByteArray.size ⟨ds.toArray⟩ = ds.length := rfl
  rw [hval]
  refine Tryz.int_walk0 _ ⟨ds.toArray⟩ ds (sg == [45]) w' htrim rfl hdig (by omega) (by omega) (by omega) fun c hc => ?_
  have hc' : (sg ++ ds)[0]? = some c := by
    rw [← htl, Array.getElem?_toList]
    have h0 : 0 < (s.extract (from_ l) (end_ l)).size := by
      rcases Nat.lt_or_ge 0 (s.extract (from_ l) (end_ l)).size with h | h
      · exact h
      · rw [getElem?_neg (s.extract (from_ l) (end_ l)) 0 (by omega)] at hc; cases hc
    rw [getElem?_pos (s.extract (from_ l) (end_ l)) 0 h0] at hc
    rw [getElem?_pos (s.extract (from_ l) (end_ l)).data 0 h0]
    exact hc
  rcases hsg3 with rfl | rfl | rfl
  · have := hdig c (List.mem_of_getElem? (show ds[0]? = some c from hc'))
    have h45 : c ≠ 45 := fun e => by rw [e] at this; cases this
    show (c == 45) = false
    simpa using h45
  · cases hc'; rfl
  · cases hc'; rfl
end Go.Proofs

