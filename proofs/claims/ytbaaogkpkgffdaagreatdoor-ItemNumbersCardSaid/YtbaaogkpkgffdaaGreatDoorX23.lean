/- A part of an executor of the model over abstract values, and what it tells of the calls. -/
import Derived.Test.YtbaaogkpkgffdaaGreatDoorX22
namespace Go.Exe
open Go Go.RowKit
set_option linter.unusedSectionVars false

/-- a symbol -/
noncomputable def sy (i : Int) : AV := .cons (.int .i64 i) .nil
/-- a symbol that stands for a text; for a truth value -/
noncomputable def sys (i : Nat) : AV := .cons (.str i 0) .nil
noncomputable def syb (i : Nat) : AV := .cons (.fn i .nil) .nil
def intOfV : Option Value → Int
  | some (.int _ n) => n
  | _ => 0
def strOfV : Option Value → ByteArray
  | some (.string s) => s
  | _ => ByteArray.empty
def boolOfV : Option Value → Bool
  | some (.bool b) => b
  | _ => false
/-- symbols that stand for the values of a list -/
noncomputable abbrev envL (l : List Value) (_ : ∀ v ∈ l, one1 v = true) : Env where
  val a := match a with
    | .int k i => .int k (intOfV (l[i.toNat]?))
    | .str n _ => .string (strOfV (l[n]?))
    | .fn f _ => .bool (boolOfV (l[f]?))
    | _ => .bool false
  one a := by cases a <;> rfl
  tyI k i := ⟨_, rfl⟩
  tyS n a := ⟨_, rfl⟩
  tyB f c := ⟨_, rfl⟩

/-! ### tables of calls -/
noncomputable def orcTab (T : List (AV × AV)) (args : AV) (h : Hp) : CR := List.rec (motive := fun _ => CR) (.fail 81) (fun p _ ih => sel (eqAV args p.1) (.val p.2 h) ih) T
/-- one answer, where the table is told of -/
noncomputable def orcOne (g : Nat) (args a : AV) (x : AV) (h : Hp) : CR := sel (ascOk g h) (sel (eqAV x args) (.val a h) (.fail 82)) (.fail 82)
section
variable [Env]
theorem orcTab_ok {P : Program} {f : Nat} {T : List (AV × AV)} (hf : FnOk P f) (hT : ∀ p ∈ T, ∀ h, CallOk P f p.1 h p.2 h) {args : AV} {h : Hp} {x : AV} {h' : Hp} (e : orcTab T args h = .val x h') : FnOk P f ∧ CallOk P f args h x h' := by
  refine ⟨hf, ?_⟩
  induction T with
  | nil => cases e
  | cons p T ih =>
    replace e : sel (eqAV args p.1) (.val p.2 h) (orcTab T args h) = CR.val x h' := e
    cases hb : eqAV args p.1 with
    | true =>
      rw [hb] at e
      cases e
      rw [eqAV_iff hb]
      exact hT p (List.mem_cons_self ..) h
    | false => rw [hb] at e; exact ih (fun q hq => hT q (List.mem_cons_of_mem _ hq)) e
theorem orcOne_ok {P : Program} {f g : Nat} {a0 r : AV} (hc : ∀ h, ascOk g h = true → FnOk P f ∧ CallOk P f a0 h r h) {args : AV} {h : Hp} {x : AV} {h' : Hp} (e : orcOne g a0 r args h = .val x h') : FnOk P f ∧ CallOk P f args h x h' := by
  unfold orcOne at e
  cases h1 : ascOk g h with
  | false => rw [h1] at e; cases e
  | true =>
    rw [h1] at e
    replace e : sel (eqAV args a0) (.val r h) (.fail 82) = CR.val x h' := e
    cases h2 : eqAV args a0 with
    | false => rw [h2] at e; cases e
    | true =>
      rw [h2] at e
      cases e
      rw [eqAV_iff h2]
      exact hc h h1
/-- a call that leaves the world is a call with an answer -/
theorem callOk_of {P : Program} {f : Nat} {args a : AV} (hc : ∀ (φ : PM) (argv : Array Value) (w : World), VL φ args argv.toList → Calls P f argv w fun e w' => ∃ v, e = .returned v ∧ (∀ φ : PM, VR φ a v) ∧ Below w.heap.size w w') (h : Hp) : CallOk P f args h a h := fun φ w argv kw hv => by
  refine (hc φ argv w hv).mono ?_
  rintro e w' ⟨v, rfl, hr, hb⟩
  exact ⟨v, φ, rfl, hr φ, Stp.below kw hb⟩
end
end Go.Exe
