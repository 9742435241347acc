/- A part of an executor of the model over abstract values, and what it tells of the calls. -/
import Derived.RangeFuncBox
import Derived.RangeFuncLeaves
import Derived.Shelf.Abstract
import Derived.WalkKit
import Derived.OwnWalkIn
import Derived.TacticsInMore
import Derived.LoopNIn
import Derived.LoopIn
import Derived.Test.YtbaaogkpkgffdaaGreatDoorProg
import Derived.RangeFuncNested
import Derived.Test.YtbaaogkpkgffdaaGreatDoorX25
import Derived.Test.YtbaaogkpkgffdaaGreatDoorA2
namespace Go.Proofs
open Go.RowKit Go.Shelf
attribute [local go_sem] Oper.semAt_some

/-- what has come when k rounds are over, from the last one on -/
def Tryz.down (n k : Nat) : List Nat := (List.range k).map fun j => n - 1 - j
theorem Tryz.down_succ (n k : Nat) : Tryz.down n (k + 1) = Tryz.down n k ++ [n - 1 - k] := by simp [Tryz.down, List.range_succ]
theorem Tryz.down_length (n k : Nat) : (Tryz.down n k).length = k := by simp [Tryz.down]
/-- a counter's value -/
abbrev Tryz.ctr (el : Nat → Nat → Value) (j : Nat) : Value := .agg #[el j 0, el j 1, el j 2, el j 3]

set_option maxRecDepth 100000 in
set_option maxHeartbeats 4000000 in
/-- slices.Backward's closure, for every loop body that keeps what lay below n₀ -/
theorem Tryz.back1_in (F : Fence) (n : Nat) (h8 : F.fn 171) (hro : F.round = none) (hn : 1 ≤ n) (l Bs n₀ b off len cap : Nat) (el : Nat → Nat → Value) (hreach : len * 40 ≤ 140737488351232) (hb : b < n₀) (hBn : Bs < n₀) (J Jx : List Nat → World → Prop)
    (hY : ∀ pre (x : Nat) W, J pre W → pre.length < len → YieldAt F (n - 1) Tryz.prog l #[.int .i64 (x : Int), Tryz.ctr el x] W fun e W' =>
      (e = .returned (.bool true) ∧ J (pre ++ [x]) W' ∧ Below n₀ W W') ∨ (e = .returned (.bool false) ∧ Jx (pre ++ [x]) W'))
    (W : World) (hBs : W.cell? ⟨Bs, 0, none⟩ = some (.slice (some ⟨b, off, none⟩) len cap)) (hc : ∀ j i, j < len → i < 4 → W.cell? ⟨b, off + j * 4 + i, none⟩ = some (el j i)) (h0 : J [] W) :
    CallsIn F n Tryz.prog 171 #[.func (.yield l) #[] #[], .pointer (some ⟨Bs, 0, none⟩)] W fun e W' => (∃ v, e = .returned v) ∧
      ((∃ ys, ys = Tryz.down len len ∧ J ys W') ∨ (∃ pre, (∃ k, k ≤ len ∧ pre = Tryz.down len k) ∧ Jx pre W')) := by
  refine callsIn_of_wp Tryz.func171 rfl h8 ?_ hro
  simp only [Tryz.ntmps171, List.size_toArray, List.length_cons, List.length_nil, Nat.reduceAdd, Nat.reduceSub, Array.replicate_succ, Array.replicate_zero, List.push_toArray, List.append_toArray, List.nil_append, List.cons_append]
  gi_wp2
  gi_loopw [3] (fun i wr => ∃ k : Nat, k ≤ len ∧ i = .int .i64 ((len : Int) - 1 - k) ∧ J (Tryz.down len k) wr ∧ Below n₀ W wr)
    (fun i _ => (intOf i + 1).toNat)
  case atStart =>
    exact ⟨0, Nat.zero_le _, by simp, h0, Below.refl _ _⟩
  case round =>
    obtain ⟨k, hk, rfl, hJs, hnx⟩ := hrel
    have hcx : ∀ i, k < len → i < 4 → wr.cell? ⟨b, off + (len - 1 - k) * 4 + i, none⟩ = some (el (len - 1 - k) i) := fun i h hi => (hnx.cell (p := ⟨b, _, none⟩) hb).trans (hc _ i (by omega) hi)
    have hBx : wr.cell? ⟨Bs, 0, none⟩ = some (.slice (some ⟨b, off, none⟩) len cap) := (hnx.cell (p := ⟨Bs, 0, none⟩) hBn).trans hBs
    by_cases hlt : k < len
    · obtain ⟨fn, tmps, assign, body, hy, hR⟩ := hY _ (len - 1 - k) wr hJs (by rw [Tryz.down_length]; exact hlt)
      have hix : ((len : Int) - 1 - k) = ((len - 1 - k : Nat) : Int) := by omega
      rw [hix]
      have h00 : (0 : Int) ≤ ((len - 1 - k : Nat) : Int) := by omega
      have hltn : len - 1 - k < len := by omega
      have c0 := hcx 0 hlt (by decide)
      have c1 := hcx 1 hlt (by decide)
      have c2 := hcx 2 hlt (by decide)
      have c3 := hcx 3 hlt (by decide)
      rw [Nat.add_zero] at c0
      gi_wp2
      refine hR.mono ?_
      rintro e W3 (⟨rfl, hJ3, hk3⟩ | ⟨rfl, hJx3⟩)
      · gi_wp2
        go_roundw
        case rel => exact ⟨k + 1, by omega, by congr 1; omega, by rw [Tryz.down_succ]; exact hJ3, hnx.trans hk3⟩
        case measure => simp [intOf]
      · gi_wp2
        refine bodyPost_ret (results_none rfl _ _ _) rfl ?_
        exact ⟨⟨_, rfl⟩, .inr ⟨_, ⟨k + 1, by omega, (Tryz.down_succ _ _).symm⟩, hJx3⟩⟩
    · obtain rfl : k = len := by omega
      have hneg : ¬ (0 : Int) ≤ (k : Int) - 1 - k := by omega
      gi_wp2
      go_end0
      exact ⟨⟨_, rfl⟩, .inl hJs⟩

set_option maxRecDepth 100000 in
set_option maxHeartbeats 1000000 in
/-- .. at the nil slice: no round -/
theorem Tryz.back1_nil_in (F : Fence) (n : Nat) (h8 : F.fn 171) (hro : F.round = none) (l Bs : Nat) (J : List Nat → World → Prop) (W : World) (hBs : W.cell? ⟨Bs, 0, none⟩ = some (.slice none 0 0)) (h0 : J [] W) :
    CallsIn F n Tryz.prog 171 #[.func (.yield l) #[] #[], .pointer (some ⟨Bs, 0, none⟩)] W fun e W' => (∃ v, e = .returned v) ∧ J [] W' := by
  refine callsIn_of_wp Tryz.func171 rfl h8 ?_ hro
  simp only [Tryz.ntmps171, List.size_toArray, List.length_cons, List.length_nil, Nat.reduceAdd, Nat.reduceSub, Array.replicate_succ, Array.replicate_zero, List.push_toArray, List.append_toArray, List.nil_append, List.cons_append]
  gi_wp2
  gi_loopw [3] (fun i wr => i = .int .i64 (-1) ∧ J [] wr) (fun _ _ => 0)
  case atStart => exact ⟨rfl, h0⟩
  case round =>
    obtain ⟨rfl, hJs⟩ := hrel
    gi_wp2
    go_end0
    exact ⟨⟨_, rfl⟩, hJs⟩

set_option maxHeartbeats 1000000 in
/-- **slices.Backward(s)**: the slice value is boxed; the function value captures the box -/
theorem Tryz.backward_in (F : Fence) (n : Nat) (h6 : F.fn 140) (hro : F.round = none) (a : Option Addr) (len cap : Nat) (w : World) :
    CallsIn F n Tryz.prog 140 #[.slice a len cap] w fun e w' => e = .returned (.func (.func 171) #[] #[.pointer (some ⟨w.heap.size, 0, none⟩)]) ∧ w' = w.alloc (.cells #[.slice a len cap] 93) := by
  refine callsIn_of_wp Tryz.func140 rfl h6 ?_ hro
  simp only [Tryz.ntmps140, List.size_toArray, List.length_cons, List.length_nil, Nat.reduceAdd, Nat.reduceSub, Array.replicate_succ, Array.replicate_zero, List.push_toArray, List.append_toArray, List.nil_append, List.cons_append]
  gi_wp2
  go_ret
  exact ⟨rfl, rfl⟩

/-- a slice of counters, in a block below n₀; or nil -/
def Tryz.Ctrs (n₀ : Nat) (W : World) (sv : Value) (len : Nat) (el : Nat → Nat → Value) : Prop :=
  (sv = .slice none 0 0 ∧ len = 0) ∨ ∃ b off cap, sv = .slice (some ⟨b, off, none⟩) len cap ∧ b < n₀ ∧ ∀ j i, j < len → i < 4 → W.cell? ⟨b, off + j * 4 + i, none⟩ = some (el j i)
theorem Tryz.Ctrs.below {n₀ n₁ : Nat} {A B : World} (h : Below n₁ A B) {sv : Value} {len : Nat} {el : Nat → Nat → Value} (hn : n₁ ≤ n₀) : Tryz.Ctrs n₁ A sv len el → Tryz.Ctrs n₀ B sv len el
  | .inl e => .inl e
  | .inr ⟨b, off, cap, e, hb, hc⟩ => .inr ⟨b, off, cap, e, by omega, fun j i hj hi => (h.cell (p := ⟨b, _, none⟩) hb).trans (hc j i hj hi)⟩

theorem Tryz.backward_stops (F : Fence) (n : Nat) (h8 : F.fn 171) (hro : F.round = none) (hn : 1 ≤ n) (Bs n₀ : Nat) (sv : Value) (len : Nat) (el : Nat → Nat → Value) (hreach : len * 40 ≤ 140737488351232) (w : World) (hBs : Bs < w.heap.size) (hBn : Bs < n₀) (hn₀ : n₀ ≤ w.heap.size)
    (hc : w.cell? ⟨Bs, 0, none⟩ = some sv) (hI : Tryz.Ctrs n₀ w sv len el) :
    SeqStopsK F n Tryz.prog 171 #[.pointer (some ⟨Bs, 0, none⟩)] (fun x : Nat => #[Value.int .i64 (x : Int), Tryz.ctr el x]) (Below n₀) (fun ys => ys = Tryz.down len len)
      (fun pre => ∃ k, k ≤ len ∧ pre = Tryz.down len k) len w := fun l J Jx W hW _ _ hY h0 => by
  have hc' := (hW.cell (p := ⟨Bs, 0, none⟩) hBs).trans hc
  rcases hI.below (hW.mono hn₀) (Nat.le_refl _) with ⟨rfl, rfl⟩ | ⟨b, off, cap, rfl, hb, hcs⟩
  · exact (Tryz.back1_nil_in F n h8 hro l Bs J W hc' h0).mono fun e W' ⟨he, hj⟩ => ⟨he, .inl ⟨_, rfl, hj⟩⟩
  · exact Tryz.back1_in F n h8 hro hn l Bs n₀ b off len cap el hreach hb hBn J Jx hY W hc' hcs h0

end Go.Proofs

namespace Go.Proofs
open Go.RowKit Go.Shelf
attribute [local go_sem] Oper.semAt_some

theorem strEq {a b : ByteArray} (h : a.toList = b.toList) : a = b := by
  rw [Go.ByteArray.toList_eq, Go.ByteArray.toList_eq] at h
  exact ByteArray.ext (Array.ext' h)
set_option maxRecDepth 100000 in
set_option maxHeartbeats 4000000 in
/-- scope.inner: the place of the last counter of a name, or -1 -/
theorem Tryz.inner_in (F : Fence) (n : Nat) (h114 : F.fn 114) (h140 : F.fn 140) (h171 : F.fn 171) (hro : F.round = none) (hn : 3 ≤ n) (a : Option Addr) (len cap : Nat) (el : Nat → Nat → Value) (nm : Nat → ByteArray) (s : ByteArray)
    (hnm : ∀ j, el j 0 = .string (nm j)) (hone : ∀ j i, (el j i).oneCell' = true) (hreach : len * 40 ≤ 140737488351232) (w : World) (hI : Tryz.Ctrs w.heap.size w (.slice a len cap) len el) :
    CallsIn F n Tryz.prog 114 #[.slice a len cap, .string s] w fun e W' =>
      ((e = .returned (.int .i64 (-1)) ∧ ∀ j, j < len → nm j ≠ s) ∨ (∃ k : Nat, k < len ∧ e = .returned (.int .i64 k) ∧ nm k = s ∧ ∀ j, k < j → j < len → nm j ≠ s)) ∧ Below w.heap.size w W' := by
  have h1 : 1 ≤ n := by omega
  refine callsIn_of_wp_marks Tryz.func114 rfl h114 ?_ hro
  simp only [Tryz.ntmps114, List.size_toArray, List.length_cons, List.length_nil, Nat.reduceAdd, Nat.reduceSub, Array.replicate_succ, Array.replicate_zero, List.push_toArray, List.append_toArray, List.nil_append, List.cons_append]
  gi_wp2_with (gi_at_call 140; refine (Tryz.backward_in F (n - 1) h140 hro _ _ _ _).mono ?_; rintro e w' ⟨rfl, rfl⟩)
  obtain ⟨w1, hw1⟩ : ∃ w1, ((w.alloc (.cells #[.string s] 9)).alloc (.cells #[.int .i64 0] 3)).alloc (.cells #[.slice a len cap] 93) = w1 := ⟨_, rfl⟩
  have hsz : w1.heap.size = w.heap.size + 3 := by rw [← hw1]; simp
  have hB0 : Below w.heap.size w w1 := by
    rw [← hw1]; exact (((Below.refl _ w).alloc (Nat.le_refl _) _).alloc (by simp) _).alloc (by simp; omega) _
  have cS : w1.cell? ⟨w.heap.size, 0, none⟩ = some (.string s) := by
    rw [← hw1]; exact (((Boxed.new w 9 (.string s)).alloc _).alloc _).cell
  have hR := (Boxed.new (w.alloc (.cells #[.string s] 9)) 3 (.int .i64 0)).alloc (.cells #[.slice a len cap] 93)
  have cN := (Boxed.new ((w.alloc (.cells #[.string s] 9)).alloc (.cells #[.int .i64 0] 3)) 93 (.slice a len cap)).cell
  rw [World.size_alloc] at hR
  rw [World.size_alloc, World.size_alloc] at cN
  rw [hw1] at hR cN ⊢
  refine wpIn_rangeFunc_ownH hro h1 (gf := 171) (lb := #[.pointer (some ⟨w.heap.size + 1 + 1, 0, none⟩)]) rfl h171 (enters_of Tryz.func171 (by kernel_rfl) rfl)
    (Tryz.backward_stops F (n - 1) h171 hro (by omega) (w.heap.size + 1 + 1) w1.heap.size _ len el hreach w1 (by omega) (by omega) (Nat.le_refl _) cN (hI.below hB0 (by omega)))
    belowK_t (belowK_b (Nat.le_refl _)) (Below.refl _ _) (fun _ => rfl)
    (fun pre W => ((∀ j ∈ pre, nm j ≠ s) ∧ W.cell? ⟨w.heap.size, 0, none⟩ = some (.string s) ∧ W.cell? ⟨w.heap.size + 1, 0, none⟩ = some (.int .i64 0) ∧ W.frozen? ⟨w.heap.size + 1, 0, none⟩ = false) ∧ Below w1.heap.size w1 W)
    (fun c pre W => (c = .ret ∧ ∃ ini last, pre = ini ++ [last] ∧ (∀ j ∈ ini, nm j ≠ s) ∧ nm last = s ∧ W.cell? ⟨w.heap.size + 1, 0, none⟩ = some (.int .i64 (last : Int))) ∧ Below w.heap.size w W)
    (OwnFrom.and (Own.from (fun p A B row hs hg hr => ⟨hs.1, cell_kept hs.2.1 hg hr, cell_kept hs.2.2.1 hg hr, (frozen_kept hs.2.2.1 hg hr).trans hs.2.2.2⟩) _) (ownFrom_below (Nat.le_refl _) (Nat.le_refl _)))
    (fun c => OwnFrom.and (Own.from (fun p A B row hs hg hr => by obtain ⟨hc, ini, last, e1, e2, e3, e4⟩ := hs; exact ⟨hc, ini, last, e1, e2, e3, cell_kept e4 hg hr⟩) _) (ownFrom_below (Nat.le_refl _) (by omega)))
    ⟨⟨by simp, cS, hR.cell, hR.frozen⟩, Below.refl _ _⟩
    (fun x a' W => ∃ B, a' = { tmps := #[.slice a len cap, .string s, undef, .pointer (some ⟨w.heap.size, 0, none⟩), .pointer (some ⟨w.heap.size + 1, 0, none⟩), .int .i64 (x : Int), .pointer (some ⟨B, 0, none⟩), .slice a len cap, .func (.func 171) #[] #[.pointer (some ⟨w.heap.size + 1 + 1, 0, none⟩)], .int .i64 (x : Int), Tryz.ctr el x, undef, undef, undef, undef, undef], defers := [] } ∧ W.cell? ⟨B, 0, none⟩ = some (el x 0))
    (fun x a' => Own.from (fun p A B row hs hg hr => by obtain ⟨B', e, hc⟩ := hs; exact ⟨B', e, cell_kept hc hg hr⟩) _) ?assign ?body ?done ?stop
  case assign =>
    intro l pre x W K hI hK
    have eA : World.cell? (W.alloc (.cells #[.string (nm x), el x 1, el x 2, el x 3] 95)) ⟨W.heap.size, 0, none⟩ = some (.string (nm x)) := by
      unfold World.cell? World.alloc
      simp only [Array.getElem?_push_size]
      rfl
    have st : ∀ i a W', (store a (el x i)).run Tryz.prog W' = stored Tryz.prog W' a (el x i) .plain := fun i a W' => run_store _ _ _ _ _ (hone x i)
    gi_wp2
    obtain ⟨⟨hp, hcs, hcr, hfr⟩, hB⟩ := hI
    have hg := World.grownBy_alloc W (.cells #[.string (nm x), el x 1, el x 2, el x 3] 95) none
    refine hK _ _ ((KeepsOthers.alloc _ _).from _) ((Below.refl _ W).alloc hB.size _) ⟨⟨hp, cell_kept hcs hg (fun r e => by cases e), cell_kept hcr hg (fun r e => by cases e), (frozen_kept hcr hg (fun r e => by cases e)).trans hfr⟩, hB.alloc hB.size _⟩ ⟨W.heap.size, rfl, ?_⟩
    rw [hnm]
    exact eA
  case body =>
    rintro l pre x a' W _ _ ⟨⟨hp, hcs, hcr, hfr⟩, hB⟩ ⟨B, rfl, hcB⟩ hlen
    rw [hnm] at hcB
    gi_wp2
    · rename_i hx
      have hx : nm x = s := strEq (by simpa using hx)
      exact ⟨(KeepsOthers.setCell _ _ _).from _, ⟨rfl, pre, x, rfl, hp, hx, World.cell?_setCell_same' _ _ _ (by rw [hcr]; rfl)⟩, (hB0.trans (hB.mono (by omega))).setCell (p := ⟨w.heap.size + 1, 0, none⟩) (by simp) _⟩
    · rename_i hx
      have hx : nm x ≠ s := fun e => by rw [e] at hx; simp at hx
      exact ⟨KeepsFrom.refl _ _, Below.refl _ _, ⟨fun j hj => (List.mem_append.1 hj).elim (hp j) (fun e => by simp at e; subst e; exact hx), hcs, hcr, hfr⟩, hB⟩
  case done =>
    rintro D ys W hD rfl ⟨⟨hne, hcs, hcr, hfr⟩, hB⟩ hK
    gi_wp2
    have hK' := (KeepsOthers.setCell W ⟨w.heap.size + 1, 0, none⟩ (.int .i64 (-1))).same D _ hK rfl
    refine ⟨by simp, .inl ⟨_, _, rfl, run_takeDeferred hK', ?_⟩⟩
    have hc5 := cell_kept (World.cell?_setCell_same' W ⟨w.heap.size + 1, 0, none⟩ (.int .i64 (-1)) (by rw [hcr]; rfl)) (grownBy_putObj' _ D (.deferred none)) (fun r e => by cases e; exact ⟨_, hK', rfl⟩)
    refine ⟨.int .i64 (-1), ?_, .inl ⟨rfl, fun j hj => hne j (by simp only [Tryz.down, List.mem_map, List.mem_range]; exact ⟨len - 1 - j, by omega, by omega⟩)⟩, ((hB0.trans (hB.mono (by omega))).setCell (p := ⟨w.heap.size + 1, 0, none⟩) (by simp) _).trans (belowK_b (w := w1) (by omega) _ D _ _ hD hK' rfl rfl)⟩
    simp [results, Tryz.f114, go_sem, hc5]
  case stop =>
    rintro D c pre W hD ⟨k, hk, rfl⟩ ⟨⟨rfl, ini, last, e1, e2, e3, hcr⟩, hB⟩ hK
    gi_wp2
    refine ⟨by simp, .inl ⟨_, _, rfl, run_takeDeferred hK, ?_⟩⟩
    have hc5 := cell_kept hcr (grownBy_putObj' _ D (.deferred none)) (fun r e => by cases e; exact ⟨_, hK, rfl⟩)
    obtain ⟨k', rfl⟩ : ∃ k', k = k' + 1 := by
      cases k with
      | zero => simp [Tryz.down] at e1
      | succ k' => exact ⟨k', rfl⟩
    rw [Tryz.down_succ] at e1
    obtain ⟨rfl, e5⟩ := List.append_inj' e1 rfl
    obtain rfl : len - 1 - k' = last := by simpa using e5
    refine ⟨.int .i64 ((len - 1 - k' : Nat) : Int), ?_, .inr ⟨len - 1 - k', by omega, rfl, e3, fun j h1 h2 => e2 j (by simp only [Tryz.down, List.mem_map, List.mem_range]; exact ⟨len - 1 - j, by omega, by omega⟩)⟩, hB.trans (belowK_b (w := w1) (by omega) W D _ _ hD hK rfl rfl)⟩
    simp [results, Tryz.f114, go_sem, hc5]
end Go.Proofs

namespace Go.Exe
open Go Go.RowKit Go.Proofs
set_option maxRecDepth 100000

/-! ### scope.inner, as an oracle -/
noncomputable def inrS (n a k m b : Nat) (ih : Option Int) : Option Int := Option.rec (motive := fun _ => Option Int) none (fun r => some (sel (sel (Nat.beq m n) (Nat.beq b a) false) (Int.ofNat k) r)) ih
noncomputable def inr (h : Hp) (i : Pt) (o n a : Nat) : Nat → Option Int := Nat.rec (some (-1)) (fun k ih => Option.rec (motive := fun _ => Option Int) none (fun c => onStr none (fun m b => inrS n a k m b ih) c) (cellAt h i (Nat.add o (Nat.mul k 4))))
noncomputable def inrOk (h : Hp) (i : Pt) (o len : Nat) : Bool := Option.rec (motive := fun _ => Bool) false allOne (loadN h i (Nat.mul len 4) o)
noncomputable def inrC (h : Hp) (r : Option Int) : CR := Option.rec (motive := fun _ => CR) (.fail 84) (fun z => .val (.int .i64 z) h) r
noncomputable def inrV (h : Hp) (n a : Nat) (v : AV) : CR := onSl (onNils (.fail 84) (.val (.int .i64 (-1)) h) v) (fun i o len _ _ _ => sel (Nat.ble len 1000) (sel (inrOk h i o len) (inrC h (inr h i o n a len)) (.fail 84)) (.fail 84)) v
noncomputable def orcInner (args : AV) (h : Hp) : CR := onCons (.fail 84) (fun v r => onCons (.fail 84) (fun x r2 => onNil (.fail 84) (onStr (.fail 84) (fun n a => inrV h n a v) x) r2) r) args

theorem inner_calls (a : Option Addr) (len cap : Nat) (el : Nat → Nat → Value) (nm : Nat → ByteArray) (s : ByteArray)
    (hnm : ∀ j, el j 0 = .string (nm j)) (hone : ∀ j i, (el j i).oneCell' = true) (hreach : len * 40 ≤ 140737488351232) (w : World) (hI : Tryz.Ctrs w.heap.size w (.slice a len cap) len el) :
    Calls Tryz.prog 114 #[.slice a len cap, .string s] w fun e W' =>
      ((e = .returned (.int .i64 (-1)) ∧ ∀ j, j < len → nm j ≠ s) ∨ (∃ k : Nat, k < len ∧ e = .returned (.int .i64 k) ∧ nm k = s ∧ ∀ j, k < j → j < len → nm j ≠ s)) ∧ Below w.heap.size w W' :=
  (Tryz.inner_in { fn := fun _ => True } 3 trivial trivial trivial rfl (Nat.le_refl _) a len cap el nm s hnm hone hreach w hI).calls (fun k d hd => by cases hd)

theorem strB_ne {n a m b : Nat} (ha : a < 256 ^ n) (hb : b < 256 ^ m) (h : sel (Nat.beq m n) (Nat.beq b a) false = false) : strB m b ≠ strB n a := by
  intro e
  have hl : bytesOf m b = bytesOf n a := by rw [← strB_data m b, ← strB_data n a, e]
  have hn : m = n := by have := congrArg List.length hl; simpa using this
  subst hn
  have := bytesOf_inj hb ha hl
  subst this
  simp at h
section
variable [Env]
theorem inr_spec {φ : PM} {h : Hp} {w : World} (kw : WR φ h w) {i : Pt} {o n a : Nat} (ha : a < 256 ^ n) {p : PB} (hp : φ i = some p) (nm : Nat → ByteArray) : ∀ (k : Nat) (r : Int), inr h i o n a k = some r →
    (∀ j, j < k → ∀ v, w.cell? ⟨p.blk, p.off + o + j * 4, none⟩ = some v → v = .string (nm j)) → (r = -1 ∧ ∀ j, j < k → nm j ≠ strB n a) ∨ ∃ q : Nat, q < k ∧ r = q ∧ nm q = strB n a ∧ ∀ j, q < j → j < k → nm j ≠ strB n a := by
  intro k
  induction k with
  | zero => intro r hr _; cases hr; exact .inl ⟨rfl, fun j hj => by omega⟩
  | succ k ih =>
    intro r hr hnm
    replace hr : (Option.rec (motive := fun _ => Option Int) none (fun c => onStr none (fun m b => inrS n a k m b (inr h i o n a k)) c) (cellAt h i (o + k * 4))) = some r := hr
    cases hc : cellAt h i (o + k * 4) with
    | none => rw [hc] at hr; cases hr
    | some c =>
      rw [hc] at hr
      replace hr : onStr none (fun m b => inrS n a k m b (inr h i o n a k)) c = some r := hr
      obtain ⟨v, hv, hvr⟩ := kw.cell hc hp
      cases c <;> first | (cases hr; done) | skip
      rename_i m b
      replace hr : inrS n a k m b (inr h i o n a k) = some r := hr
      obtain ⟨rfl, hb⟩ := hvr
      have hk := hnm k (by omega) _ (by rw [Nat.add_assoc]; exact hv)
      injection hk with hk
      unfold inrS at hr
      cases hi : inr h i o n a k with
      | none => rw [hi] at hr; cases hr
      | some r0 =>
        rw [hi] at hr
        replace hr : some (sel (sel (Nat.beq m n) (Nat.beq b a) false) (Int.ofNat k) r0) = some r := hr
        injection hr with hr
        have hih := ih r0 hi (fun j hj v hv => hnm j (by omega) v hv)
        cases hq : sel (Nat.beq m n) (Nat.beq b a) false with
        | true =>
          rw [hq] at hr
          refine .inr ⟨k, by omega, hr.symm, ?_, fun j h1 h2 => by omega⟩
          rw [← hk]
          cases h1 : Nat.beq m n <;> rw [h1] at hq
          · cases hq
          · rw [Nat.eq_of_beq_eq_true h1, Nat.eq_of_beq_eq_true (show Nat.beq b a = true from hq)]
        | false =>
          rw [hq] at hr
          obtain rfl : r0 = r := hr
          have hne : nm k ≠ strB n a := by rw [← hk]; exact strB_ne ha hb hq
          rcases hih with ⟨rfl, hall⟩ | ⟨q, hq1, hq2, hq3, hq4⟩
          · exact .inl ⟨rfl, fun j hj => by
              rcases Nat.lt_or_ge j k with h | h
              · exact hall j h
              · obtain rfl : j = k := by omega
                exact hne⟩
          · exact .inr ⟨q, by omega, hq2, hq3, fun j h1 h2 => by
              rcases Nat.lt_or_ge j k with h | h
              · exact hq4 j h1 h
              · obtain rfl : j = k := by omega
                exact hne⟩

theorem inr_str {φ : PM} {h : Hp} {w : World} (kw : WR φ h w) {i : Pt} {o n a : Nat} {p : PB} (hp : φ i = some p) : ∀ (k : Nat), inr h i o n a k ≠ none → ∀ j, j < k → ∃ s, w.cell? ⟨p.blk, p.off + o + j * 4, none⟩ = some (.string s) := by
  intro k
  induction k with
  | zero => intro _ j hj; omega
  | succ k ih =>
    intro hr j hj
    replace hr : (Option.rec (motive := fun _ => Option Int) none (fun c => onStr none (fun m b => inrS n a k m b (inr h i o n a k)) c) (cellAt h i (o + k * 4))) ≠ none := hr
    cases hc : cellAt h i (o + k * 4) with
    | none => rw [hc] at hr; exact absurd rfl hr
    | some c =>
      rw [hc] at hr
      replace hr : onStr none (fun m b => inrS n a k m b (inr h i o n a k)) c ≠ none := hr
      obtain ⟨v, hv, hvr⟩ := kw.cell hc hp
      cases c <;> first | exact absurd rfl hr | skip
      rename_i m b
      replace hr : inrS n a k m b (inr h i o n a k) ≠ none := hr
      obtain ⟨rfl, hb⟩ := hvr
      rcases Nat.lt_or_ge j k with h1 | h1
      · refine ih (fun e => hr ?_) j h1
        unfold inrS; rw [e]
      · obtain rfl : j = k := by omega
        exact ⟨_, by rw [Nat.add_assoc]; exact hv⟩

theorem orcInner_ok (hf : FnOk Tryz.prog 114) {args : AV} {h : Hp} {x : AV} {h' : Hp} (e : orcInner args h = .val x h') : FnOk Tryz.prog 114 ∧ CallOk Tryz.prog 114 args h x h' := by
  refine ⟨hf, fun φ w argv kw hv => ?_⟩
  unfold orcInner at e
  cases args <;> first | (cases e; done) | skip
  rename_i v r
  replace e : onCons (CR.fail 84) (fun x r2 => onNil (.fail 84) (onStr (.fail 84) (fun n a => inrV h n a v) x) r2) r = .val x h' := e
  cases r <;> first | (cases e; done) | skip
  rename_i y r2
  replace e : onNil (CR.fail 84) (onStr (.fail 84) (fun n a => inrV h n a v) y) r2 = .val x h' := e
  cases r2 <;> first | (cases e; done) | skip
  cases y <;> first | (cases e; done) | skip
  rename_i n a
  replace e : inrV h n a v = .val x h' := e
  obtain ⟨sv, vs, hvs, hsv, hr⟩ := VL_cons_inv hv
  obtain ⟨sn, vs2, rfl, hsn, hr2⟩ := VL_cons_inv hr
  obtain rfl := VL_nil_inv hr2
  obtain ⟨rfl, ha⟩ := hsn
  obtain rfl : argv = #[sv, .string (strB n a)] := by apply Array.ext'; rw [hvs]
  unfold inrV at e
  have fin : ∀ (ad : Option Addr) (len cap : Nat) (el : Nat → Nat → Value) (nm : Nat → ByteArray), sv = .slice ad len cap → (∀ j, el j 0 = .string (nm j)) → (∀ j i, (el j i).oneCell' = true) → len ≤ 1000 → Tryz.Ctrs w.heap.size w sv len el →
      ∀ r : Int, x = .int .i64 r → h' = h → ((r = -1 ∧ ∀ j, j < len → nm j ≠ strB n a) ∨ ∃ q : Nat, q < len ∧ r = q ∧ nm q = strB n a ∧ ∀ j, q < j → j < len → nm j ≠ strB n a) →
      Calls Tryz.prog 114 #[sv, .string (strB n a)] w fun e w' => ∃ v φ', e = .returned v ∧ VR φ' x v ∧ Stp φ h w φ' h' w' := by
    rintro ad len cap el nm rfl hnm hone hlen hI r rfl rfl hr
    refine (inner_calls ad len cap el nm (strB n a) hnm hone (by omega) w hI).mono ?_
    rintro e w' ⟨hres, hb⟩
    rcases hres with ⟨rfl, hall⟩ | ⟨q, hq1, rfl, hq3, hq4⟩
    · rcases hr with ⟨rfl, _⟩ | ⟨q, h1, _, h3, _⟩
      · exact ⟨_, φ, rfl, rfl, Stp.below kw hb⟩
      · exact absurd h3 (hall q h1)
    · rcases hr with ⟨_, hall⟩ | ⟨q', h1, rfl, h3, h4⟩
      · exact absurd hq3 (hall q hq1)
      · obtain rfl : q = q' := by
          rcases Nat.lt_trichotomy q q' with h | h | h
          · exact absurd h3 (hq4 q' h h1)
          · exact h
          · exact absurd hq3 (h4 q h hq1)
        exact ⟨_, φ, rfl, rfl, Stp.below kw hb⟩
  cases v <;> first | (cases e; done) | skip
  · rename_i i o len cap es op
    replace e : sel (Nat.ble len 1000) (sel (inrOk h i o len) (inrC h (inr h i o n a len)) (.fail 84)) (.fail 84) = CR.val x h' := e
    cases e1 : Nat.ble len 1000 <;> rw [e1] at e
    · cases e
    replace e : sel (inrOk h i o len) (inrC h (inr h i o n a len)) (.fail 84) = CR.val x h' := e
    cases e2 : inrOk h i o len <;> rw [e2] at e
    · cases e
    replace e : inrC h (inr h i o n a len) = CR.val x h' := e
    cases e3 : inr h i o n a len with
    | none => rw [e3] at e; cases e
    | some r =>
      rw [e3] at e
      cases e
      obtain ⟨p, c, hp, rfl, _⟩ := hsv
      unfold inrOk at e2
      cases hl : loadN h i (Nat.mul len 4) o with
      | none => rw [hl] at e2; cases e2
      | some l =>
        rw [hl] at e2
        replace e2 : allOne l = true := e2
        obtain ⟨vs, hlen, hvl, hcs⟩ := kw.cells hl hp
        have hone := allOne_sound hvl e2
        have hlen : vs.length = len * 4 := hlen
        have hstr := inr_str (n := n) (a := a) kw hp len (by rw [e3]; simp)
        have hget : ∀ j i', j < len → i' < 4 → ∃ v, vs[j * 4 + i']? = some v := fun j i' hj hi => ⟨vs[j * 4 + i']'(by omega), List.getElem?_eq_getElem _⟩
        refine fin _ len c (fun j i' => if j < len ∧ i' < 4 then (vs[j * 4 + i']?).getD (.bool false) else if i' = 0 then .string ByteArray.empty else .bool false)
          (fun j => match (if j < len then (vs[j * 4]?).getD (.bool false) else .bool false) with | .string s => s | _ => ByteArray.empty) rfl (fun j => ?_) (fun j i' => ?_) (Nat.le_of_ble_eq_true e1) (.inr ⟨p.blk, p.off + o, c, rfl, ?_, fun j i' hj hi => ?_⟩) r rfl rfl (inr_spec kw ha hp _ len r e3 fun j hj v hv => ?_)
        · by_cases hj : j < len
          · obtain ⟨s, hs⟩ := hstr j hj
            obtain ⟨v, hv⟩ := hget j 0 hj (by decide)
            rw [Nat.add_zero] at hv
            have hc := hcs _ _ hv
            rw [hs] at hc
            obtain rfl := Option.some.inj hc
            simp [hj, hv]
          · simp [hj]
        · by_cases hj : j < len ∧ i' < 4
          · obtain ⟨v, hv⟩ := hget j i' hj.1 hj.2
            have := hone v (List.mem_of_getElem? hv)
            simp only [hj, and_self, if_true, hv, Option.getD_some]
            cases v <;> first | rfl | (cases this; done)
          · rw [if_neg hj]; split <;> rfl
        · obtain ⟨s, t, op', mk, g, _⟩ := loadN_inv hl
          obtain ⟨q, hq, hor⟩ := kw.obj _ _ g
          rw [hp] at hq; cases hq
          exact hor.lt
        · obtain ⟨v, hv⟩ := hget j i' hj hi
          have := hcs _ _ hv
          simp only [hj, hi, and_self, if_true, hv, Option.getD_some]
          rw [← this]
          congr 2
          omega
        · obtain ⟨v', hv'⟩ := hget j 0 hj (by decide)
          rw [Nat.add_zero] at hv'
          have hc := hcs _ _ hv'
          rw [hv] at hc
          obtain rfl := Option.some.inj hc
          obtain ⟨s, hs⟩ := hstr j hj
          rw [hv] at hs
          obtain rfl := Option.some.inj hs
          simp [hj, hv']
  · replace e : CR.val (.int .i64 (-1)) h = CR.val x h' := e
    cases e
    obtain rfl : sv = .slice none 0 0 := hsv
    exact fin none 0 0 (fun _ i => if i = 0 then .string ByteArray.empty else .bool false) (fun _ => ByteArray.empty) rfl (fun j => by simp) (fun j i => by split <;> rfl) (by omega) (.inl ⟨rfl, rfl⟩) (-1) rfl rfl (.inl ⟨rfl, fun j hj => by omega⟩)
end
theorem fn114 : FnOk Tryz.prog 114 := FnOk_of Tb2.ft_ok (by kernel_rfl)
theorem fn41 : FnOk Tryz.prog 41 := FnOk_of Tb2.ft_ok (by kernel_rfl)
noncomputable def orcI (f : Nat) : Option (AV → Hp → CR) := sel (Nat.beq f 114) (some orcInner) (orcB f)
section
variable [Env]
theorem orcI_ok : OrcOk Tryz.prog orcI := by
  intro f g e args h a h' hg
  unfold orcI at e
  cases hb : Nat.beq f 114 with
  | true => rw [hb] at e; cases e; rw [Nat.eq_of_beq_eq_true hb]; exact orcInner_ok fn114 hg
  | false => rw [hb] at e; exact orcB_ok f g e args h a h' hg
end
end Go.Exe

