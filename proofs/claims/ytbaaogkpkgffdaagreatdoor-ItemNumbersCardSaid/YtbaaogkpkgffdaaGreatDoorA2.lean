/- A part of an executor of the model over abstract values, and what it tells of the calls. -/
import Derived.Test.YtbaaogkpkgffdaaGreatDoorTb2
import Derived.Test.YtbaaogkpkgffdaaGreatDoorX25
import Derived.Test.YtbaaogkpkgffdaaGreatDoorR2c
import Derived.Test.YtbaaogkpkgffdaaGreatDoorLow2
namespace Go.Exe
open Go Go.RowKit Go.Proofs
set_option maxRecDepth 100000

theorem FnOk_of {P : Program} {tt : TT} {ft : Tr FE} (hft : FTok P tt ft) {f : Nat} (h : (getP (pt f) ft).isSome = true) : FnOk P f := by
  obtain ⟨fe, e⟩ := Option.isSome_iff_exists.1 h
  obtain ⟨fn, h1, h2, h3, _⟩ := (hft f fe e).fn
  exact ⟨fn, _, h1, h2, h3⟩

/-! ### the seat's own -/
theorem hm2 : Tryz.prog.follows .mixedOrders = true := by kernel_rfl
theorem fn82 : FnOk Tryz.prog 82 := FnOk_of Tb2.ft_ok (by kernel_rfl)
theorem fn19 : FnOk Tryz.prog 19 := FnOk_of Tb2.ft_ok (by kernel_rfl)
theorem fn98 : FnOk Tryz.prog 98 := FnOk_of Tb2.ft_ok (by kernel_rfl)
theorem fields_do : FieldsDo Tryz.prog 98 0 9 := fun s w hs ha hT => Any.strings_Fields_core Tryz.lays157 (by kernel_rfl) s w hs ha hT

noncomputable def orcB (f : Nat) : Option (AV → Hp → CR) := sel (Nat.beq f 82) (some orcLow) (sel (Nat.beq f 98) (some (orcFields 0)) none)
section
variable [Env]
theorem low_ok {args : AV} {h : Hp} {x : AV} {h' : Hp} (e : orcLow args h = .val x h') : FnOk Tryz.prog 82 ∧ CallOk Tryz.prog 82 args h x h' :=
  orcLow_ok fn82 (fun s w hs => Tryz.lower_walk s w hs) e
theorem fields_ok {args : AV} {h : Hp} {x : AV} {h' : Hp} (e : orcFields 0 args h = .val x h') : FnOk Tryz.prog 98 ∧ CallOk Tryz.prog 98 args h x h' :=
  orcFields_ok fn98 (by decide) fields_do e
theorem orcB_ok : OrcOk Tryz.prog orcB := by
  intro f g e args h a h' hg
  unfold orcB at e
  cases hb : Nat.beq f 82 with
  | true => rw [hb] at e; cases e; rw [Nat.eq_of_beq_eq_true hb]; exact low_ok hg
  | false =>
    rw [hb] at e
    replace e : sel (Nat.beq f 98) (some (orcFields 0)) none = some g := e
    cases hc : Nat.beq f 98 with
    | true => rw [hc] at e; cases e; rw [Nat.eq_of_beq_eq_true hc]; exact fields_ok hg
    | false => rw [hc] at e; cases e
/-- Round, at a symbol -/
theorem round_ok {i : Int} {k n : Int} {r : Nat} (hv : Env.val (.int .i64 i) = .int .i64 k) (h0 : 0 < n) (h1 : n ≤ 1000000) (hr : k % n = r) (h : Hp) : CallOk Tryz.prog 19 (.cons (sy i) (.cons (.int .i64 n) .nil)) h (.int .i64 (.ofNat r)) h := by
  refine callOk_of (fun φ argv w hv' => ?_) h
  obtain ⟨u, us, h2, h3, h4⟩ := VL_cons_inv hv'
  obtain ⟨v, vs, rfl, h5, h6⟩ := VL_cons_inv h4
  obtain rfl := VL_nil_inv h6
  have h3 : u = .int .i64 k := (show u = Env.val (.int .i64 i) from h3).trans hv
  have h5 : v = .int .i64 n := h5
  subst h3; subst h5
  obtain rfl : argv = #[.int .i64 k, .int .i64 n] := by apply Array.ext'; rw [h2]
  refine (Tryz.round k n h0 h1 w).mono ?_
  rintro e w' ⟨rfl, rfl⟩
  exact ⟨_, rfl, fun φ => (by rw [hr]; rfl), Below.refl _ _⟩
end
end Go.Exe
