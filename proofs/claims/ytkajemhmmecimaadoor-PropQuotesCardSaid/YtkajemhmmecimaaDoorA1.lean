/- A part of an executor of the model over abstract values, and what it tells of the calls. -/
import Derived.Test.YtkajemhmmecimaaDoorTb1
import Derived.Test.YtkajemhmmecimaaDoorX23
import Derived.Test.YtkajemhmmecimaaDoorR1c
import Derived.Test.YtkajemhmmecimaaDoorLow
namespace Go.Exe
open Go Go.RowKit Go.Proofs
set_option maxRecDepth 100000

theorem FnOk_of {P : Program} {tt : TT} {ft : Tr FE} (hft : FTok P tt ft) {f : Nat} (h : (getP (pt f) ft).isSome = true) : FnOk P f := by
  obtain ⟨fe, e⟩ := Option.isSome_iff_exists.1 h
  obtain ⟨fn, h1, h2, h3, _⟩ := (hft f fe e).fn
  exact ⟨fn, _, h1, h2, h3⟩

/-! ### the seat's own -/
theorem hm1 : Tryd.prog.follows .mixedOrders = true := by kernel_rfl
theorem fn44 : FnOk Tryd.prog 44 := FnOk_of Tb1.ft_ok (by kernel_rfl)
theorem fn11 : FnOk Tryd.prog 11 := FnOk_of Tb1.ft_ok (by kernel_rfl)

noncomputable def orcA (f : Nat) : Option (AV → Hp → CR) := sel (Nat.beq f 44) (some orcLow) none
section
variable [Env]
theorem low_ok {args : AV} {h : Hp} {x : AV} {h' : Hp} (e : orcLow args h = .val x h') : FnOk Tryd.prog 44 ∧ CallOk Tryd.prog 44 args h x h' :=
  orcLow_ok fn44 (fun s w hs => Tryd.lower_walk s w hs) e
theorem orcA_ok : OrcOk Tryd.prog orcA := by
  intro f g e args h a h' hg
  unfold orcA at e
  cases hb : Nat.beq f 44 with
  | true =>
    rw [hb] at e
    cases e
    rw [Nat.eq_of_beq_eq_true hb]
    exact low_ok hg
  | false => rw [hb] at e; cases e
/-- Round, at a symbol -/
theorem round_ok {i : Int} {k n : Int} {r : Nat} (hv : Env.val (.int .i64 i) = .int .i64 k) (h0 : 0 < n) (h1 : n ≤ 1000000) (hr : k % n = r) (h : Hp) : CallOk Tryd.prog 11 (.cons (sy i) (.cons (.int .i64 n) .nil)) h (.int .i64 (.ofNat r)) h := by
  refine callOk_of (fun φ argv w hv' => ?_) h
  obtain ⟨u, us, h2, h3, h4⟩ := VL_cons_inv hv'
  obtain ⟨v, vs, rfl, h5, h6⟩ := VL_cons_inv h4
  obtain rfl := VL_nil_inv h6
  have h3 : u = .int .i64 k := (show u = Env.val (.int .i64 i) from h3).trans hv
  have h5 : v = .int .i64 n := h5
  subst h3; subst h5
  obtain rfl : argv = #[.int .i64 k, .int .i64 n] := by apply Array.ext'; rw [h2]
  refine (Tryd.round k n h0 h1 w).mono ?_
  rintro e w' ⟨rfl, rfl⟩
  exact ⟨_, rfl, fun φ => (by rw [hr]; rfl), Below.refl _ _⟩
end
end Go.Exe
