/- A part of an executor of the model over abstract values, and what it tells of the calls. -/
import Derived.Test.YtbaaogkpkgffdaaGreatDoorX21
import Derived.Lib.LaidTab
import Derived.Lib.Space
import Derived.LaidSub
import Derived.MakeChecks
import Derived.KernelRfl
namespace Go.Exe
open Go Go.RowKit
set_option linter.unusedSectionVars false

/-! ### the table strings.asciiSpace, and what a run leaves -/
noncomputable def ascV (i : Nat) : AV := .int .u8 (.ofNat (Nat.mod (Nat.shiftRight 4294983168 i) 2))
noncomputable def ascL : Nat → Nat → AV := Nat.rec (fun _ => .nil) (fun _ ih i => .cons (ascV i) (ih (Nat.succ i)))
noncomputable def ascT : Tr AV := putL (ascL 256 0) 0 .E
/-- the heap that tells of that table alone ('g': its variable's number), as one that is not written -/
noncomputable def hG (g : Nat) : Hp := hpOf (setP (.cells 256 ascT false true) (pt g) .E)

theorem ascL_eq (φ : PM) [Env] : ∀ (n i : Nat), VL φ (ascL n i) ((List.range' i n).map fun j => Value.int .u8 (.ofNat (Nat.mod (Nat.shiftRight 4294983168 j) 2)))
  | 0, _ => VL.nil _
  | n + 1, i => by
    rw [List.range'_succ]
    exact VL.cons rfl (ascL_eq φ n (i + 1))
theorem asc_bits : Lib.asciiSpaceTab = (List.range' 0 256).map fun j => Int.ofNat (Nat.mod (Nat.shiftRight 4294983168 j) 2) := by decide +kernel

/-- what is told of the world by the row's own condition -/
def Asc (g : Nat) (w : World) : Prop := ∃ T, w.heap[g]? = some (.cells (Lib.asciiSpaceTab.map fun z => Value.int .u8 z).toArray T (0, 0))
theorem Asc.of_laid {P : Program} {W : World} {rest : List (String × DataW Unit)} {g : Nat} {t e : TypeId} (hg : P.globalNamed "strings.asciiSpace" = some g) (hty : (P.globals[g]?).map (·.type) = some t)
    (ht : P.underlying t = some (.array 256 e)) (he : P.underlying e = some (.int .u8)) (hce : P.cellsOf e = 1) (hct : P.cellsOf t = 256) (h : laidMet P (("strings.asciiSpace", Lib.tabData .u8 Lib.asciiSpaceTab) :: rest) W) : Asc g W := by
  have htab := Lib.tabIs_of_head hg hty ht he hce hct h
  obtain ⟨ps, ⟨g', t', cs, fuel, p, q, hg', ht', hvar, hd, _, hps⟩, _, hrow⟩ := h
  obtain rfl := Option.some.inj (hg.symm.trans hg')
  unfold Lib.TabIs at htab
  rw [hvar] at htab
  obtain rfl := Option.some.inj htab
  have hmem : MemPlace.cell g 0 ∈ ps := by
    rw [hps]
    refine List.mem_append_left _ (List.mem_append_left _ ?_)
    simp [MemPlace.row, Lib.asciiSpaceTab_length]
  obtain ⟨⟨c, T, hc⟩, _⟩ := hrow g 0 hmem
  refine ⟨T, ?_⟩
  have : W.var? P "strings.asciiSpace" = some c := by simp [World.var?, hg, hc]
  rw [hvar] at this
  rw [Option.some.inj this]; exact hc

section
variable [Env]
noncomputable def φG (g : Nat) : PM := fun i => if toN i < 400 then some ⟨toN i, 0, if toN i = g then 256 else 0⟩ else none
theorem Asc.obj {φ : PM} {w : World} {g top : Nat} (h : Asc g w) (ht : top = 256) : OR φ ⟨g, 0, top⟩ w (.cells 256 ascT false true) := by
  subst ht
  obtain ⟨T, hT⟩ := h
  refine ⟨_, T, (0, 0), hT, Nat.le_refl _, by simp [Lib.asciiSpaceTab_length], fun _ => rfl, fun j _ => by simp, fun j a hj hg => ?_⟩
  obtain ⟨b, v, g1, g2, g3⟩ := (putL_get (ascL_eq φ 256 0) 0 .E j).2 (by omega) (by simpa using hj)
  rw [show getP (pt j) ascT = some b from g1] at hg
  cases hg
  refine ⟨v, ?_, g3⟩
  rw [asc_bits, Nat.zero_add, List.map_map]
  simpa using g2
theorem Asc.wr {w : World} {g : Nat} (hg : g < 400) (h : Asc g w) : WR (φG g) (hG g) w := by
  have key : ∀ i o, getP i (hG g).t = some o → i = pt g ∧ o = .cells 256 ascT false true := by
    intro i o e
    rw [show (hG g).t = setP (.cells 256 ascT false true) (pt g) .E from rfl] at e
    by_cases hi : i = pt g
    · subst hi; rw [getP_setP_same] at e; cases e; exact ⟨rfl, rfl⟩
    · rw [getP_setP_ne _ _ hi, getP_E] at e; cases e
  have hφ : φG g (pt g) = some ⟨g, 0, 256⟩ := by simp [φG, toN_pt, hg]
  refine ⟨fun i hi => ⟨_, by simp [φG, toN_pt, hi]; rfl⟩, fun i o e => ?_, fun i j p q hi hj _ _ _ => ?_, fun i hi => ?_⟩
  · obtain ⟨rfl, rfl⟩ := key i o e
    exact ⟨_, hφ, h.obj rfl⟩
  · obtain ⟨a, ha⟩ := Option.isSome_iff_exists.1 hi
    obtain ⟨b, hb⟩ := Option.isSome_iff_exists.1 hj
    rw [(key i a ha).1, (key j b hb).1]
  · have h1000 : toN (hG g).n = 1000 := toN_pt 1000
    rw [h1000] at hi
    refine ⟨?_, by simp [φG]; omega⟩
    cases e : getP i (hG g).t with
    | none => rfl
    | some o =>
      rw [(key i o e).1, toN_pt] at hi
      omega
theorem hG_ro (g : Nat) : ∀ i, ¬ wrI (hG g) i := by
  rintro i ⟨o, e, h⟩
  rw [show (hG g).t = setP (.cells 256 ascT false true) (pt g) .E from rfl] at e
  by_cases hi : i = pt g
  · subst hi; rw [getP_setP_same] at e; cases e; cases h
  · rw [getP_setP_ne _ _ hi, getP_E] at e; cases e

theorem Stp.toBelow {φ φ' : PM} {h h' : Hp} {w w' : World} (s : Stp φ h w φ' h' w') (hro : ∀ i, ¬ wrI h i) : Below w.heap.size w w' :=
  ⟨s.fr.os, s.fr.tape, s.fr.output, s.fr.size, fun k hk => s.fr.block k hk fun i _ hi => absurd hi (hro i)⟩

/-- **a run from the table alone** -/
theorem run_from {P : Program} {cf : CallF} (hcf : CFok P cf) {f : Nat} {args a : AV} {h' : Hp} {g : Nat} (hg : g < 400) (e : cf f args (hG g) = .val a h') {w : World} {argv : Array Value} (hw : Asc g w) (hv : VL (φG g) args argv.toList) :
    Calls P f argv w fun e w' => ∃ v φ', e = .returned v ∧ VR φ' a v ∧ Below w.heap.size w w' := by
  refine ((hcf f args _ a h' e).2 _ w argv (hw.wr hg) hv).mono ?_
  rintro e w' ⟨v, φ', rfl, hv, hs⟩
  exact ⟨v, φ', rfl, hv, hs.toBelow (hG_ro g)⟩
theorem run_true {P : Program} {cf : CallF} (hcf : CFok P cf) {f : Nat} {args : AV} {g : Nat} (hg : g < 400) (e : isTrue (cf f args (hG g)) = true) {w : World} {argv : Array Value} (hw : Asc g w) (hv : VL (φG g) args argv.toList) :
    FnOk P f ∧ Calls P f argv w fun e w' => e = .returned (.bool true) ∧ Below w.heap.size w w' := by
  obtain ⟨h', e⟩ := isTrue_inv e
  refine ⟨(hcf f args _ _ h' e).1, (run_from hcf hg e hw hv).mono ?_⟩
  rintro e w' ⟨v, φ', rfl, hv, hb⟩
  obtain rfl : v = .bool true := hv
  exact ⟨rfl, hb⟩
end

/-! ### oracles -/
/-- does a heap tell of the table? -/
noncomputable def allAsc (t : Tr AV) : Nat → Nat → Bool := Nat.rec (fun _ => true) (fun _ ih i => Option.rec false (fun a => sel (eqAV a (ascV i)) (ih (Nat.succ i)) false) (getP (pt i) t))
noncomputable def ascC (s : Nat) (t : Tr AV) (_ _ : Bool) : Bool := sel (Nat.ble 256 s) (allAsc t 256 0) false
noncomputable def ascOk (g : Nat) (h : Hp) : Bool := blk false ascC h (pt g)
section
variable [Env]
theorem allAsc_get {t : Tr AV} : ∀ (n i : Nat), allAsc t n i = true → ∀ j, i ≤ j → j < i + n → getP (pt j) t = some (ascV j) := by
  intro n
  induction n with
  | zero => intro i _ j h1 h2; omega
  | succ n ih =>
    intro i h j h1 h2
    replace h : (Option.rec (motive := fun _ => Bool) false (fun a => sel (eqAV a (ascV i)) (allAsc t n (Nat.succ i)) false) (getP (pt i) t)) = true := h
    cases hg : getP (pt i) t with
    | none => rw [hg] at h; cases h
    | some a =>
      rw [hg] at h
      replace h : sel (eqAV a (ascV i)) (allAsc t n (Nat.succ i)) false = true := h
      cases he : eqAV a (ascV i) with
      | false => rw [he] at h; cases h
      | true =>
        rw [he] at h
        by_cases hj : j = i
        · subst hj; rw [hg, eqAV_iff he]
        · exact ih (i + 1) h j (by omega) (by omega)
end
theorem ascT_all : allAsc ascT 256 0 = true := by kernel_rfl
section
variable [Env]
theorem ascOk_sound {φ : PM} {h : Hp} {w : World} (kw : WR φ h w) {g : Nat} (hg : g < 400) (e : ascOk g h = true) : WR (fun i => if toN i < 400 then φ i else none) (hG g) w := by
  obtain ⟨s, t, op, mk, hgt, hb⟩ := blk_inv (k := ascC) (h := h) (i := pt g) (d := false) (by show ascOk g h ≠ false; rw [e]; simp)
  have e2 : ascC s t op mk = true := by rw [← hb]; exact e
  unfold ascC at e2
  cases hs : Nat.ble 256 s with
  | false => rw [hs] at e2; cases e2
  | true =>
    rw [hs] at e2
    replace e2 : allAsc t 256 0 = true := e2
    obtain ⟨p, hp, c, T, fr, h1, h2, h3, h4, h5, h6⟩ := kw.obj _ _ hgt
    obtain ⟨top, hφ⟩ := kw.gl g hg
    rw [hp] at hφ; cases hφ
    have hs := Nat.le_of_ble_eq_true hs
    have key : ∀ i o, getP i (hG g).t = some o → i = pt g ∧ o = .cells 256 ascT false true := by
      intro i o e
      rw [show (hG g).t = setP (.cells 256 ascT false true) (pt g) .E from rfl] at e
      by_cases hi : i = pt g
      · subst hi; rw [getP_setP_same] at e; cases e; exact ⟨rfl, rfl⟩
      · rw [getP_setP_ne _ _ hi, getP_E] at e; cases e
    have hlt : toN (pt g) < 400 := by rw [toN_pt]; exact hg
    refine ⟨fun i hi => ?_, fun i o e => ?_, fun i j p q hi hj _ _ _ => ?_, fun i hi => ?_⟩
    · obtain ⟨top, h⟩ := kw.gl i hi
      exact ⟨top, by simp [toN_pt, hi, h]⟩
    · obtain ⟨rfl, rfl⟩ := key i o e
      refine ⟨⟨g, 0, top⟩, by simp [hlt, hp], c, T, fr, h1, by simp only [Nat.zero_add] at h2 ⊢; omega, h3, fun h => (by cases h), h5, fun j a hj hg' => ?_⟩
      rw [allAsc_get 256 0 ascT_all j (by omega) (by omega)] at hg'
      cases hg'
      obtain ⟨v', hv', hr⟩ := h6 j _ (by omega) (allAsc_get 256 0 e2 j (by omega) (by omega))
      exact ⟨v', hv', hr⟩
    · obtain ⟨a, ha⟩ := Option.isSome_iff_exists.1 hi
      obtain ⟨b, hb⟩ := Option.isSome_iff_exists.1 hj
      rw [(key i a ha).1, (key j b hb).1]
    · have h1000 : toN (hG g).n = 1000 := toN_pt 1000
      rw [h1000] at hi
      refine ⟨?_, by rw [if_neg (by omega)]⟩
      cases e : getP i (hG g).t with
      | none => rfl
      | some o => rw [(key i o e).1, toN_pt] at hi; omega

/-- a call that was run from the table alone, and hands back nothing that leads into memory, wherever the table is told of -/
theorem small_call {P : Program} {cf : CallF} (hcf : CFok P cf) {f : Nat} {args a : AV} {h' : Hp} {g : Nat} (hg : g < 400) (e : cf f args (hG g) = .val a h') (harg : ∀ (φ φ' : PM) l, VL φ args l → VL φ' args l) (hres : ∀ (φ φ' : PM) v, VR φ a v → VR φ' a v)
    {h : Hp} (hasc : ascOk g h = true) : FnOk P f ∧ CallOk P f args h a h := by
  refine ⟨(hcf f args _ a h' e).1, fun φ w argv kw hv => ?_⟩
  refine ((hcf f args _ a h' e).2 _ w argv (ascOk_sound kw hg hasc) (harg _ _ _ hv)).mono ?_
  rintro e w' ⟨v, φ', rfl, hv, hs⟩
  exact ⟨v, φ, rfl, hres _ _ _ hv, Stp.below kw (hs.toBelow (hG_ro g))⟩
end
end Go.Exe
