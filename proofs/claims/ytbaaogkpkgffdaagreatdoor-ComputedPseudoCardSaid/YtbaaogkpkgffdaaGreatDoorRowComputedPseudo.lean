/- A part of an executor of the model over abstract values, and what it tells of the calls. -/
import Derived.Test.YtbaaogkpkgffdaaGreatDoorCPl
import Derived.Test.YtbaaogkpkgffdaaGreatDoorRows
import Derived.Test.YtbaaogkpkgffdaaGreatDoorCards
import Derived.Test.YtbaaogkpkgffdaaGreatDoorTie
import Derived.WalkKit
import Derived.ProofKit
import Derived.OpenShut
import Derived.ShutString
import Derived.ChangeOld
import Derived.Below
import Derived.SizedLaws
import Derived.LaidMore
import Derived.LaidLaws
import Derived.LaidHandle
import Derived.LaidSub
import Derived.MakeChecks
import Derived.Lay
import Derived.SevenTiedAt
import Derived.Stop.Joined
namespace Go.Proofs.YtbaaogkpkgffdaaGreatDoor.computedPseudo
open Go Go.Exe Go.ChangeShapes Go.WideShapes Go.ChangeAt Go.RowKit
open Go.ChangeMaps (open_string shut_string)
theorem own : ownKnob Tryz.prog.godebug = none := by kernel_rfl
theorem gAsc : Tryz.prog.globalNamed "strings.asciiSpace" = some 0 := by kernel_rfl
theorem tAsc : (Tryz.prog.globals[0]?).map (·.type) = some 230 := by kernel_rfl
theorem cells8 : Tryz.prog.cellsOf 5 = 1 := by kernel_rfl
theorem cells256 : Tryz.prog.cellsOf 230 = 256 := by kernel_rfl
theorem tab_eq : (Rows.laid_strings_asciiSpace : DataW Unit) = Lib.tabData .u8 Lib.asciiSpaceTab := by kernel_rfl
def laid : List (String × DataW Unit) := [("unicode/utf8.acceptRanges", Rows.laid_unicode_utf8_acceptRanges), ("unicode.White_Space", Rows.laid_unicode_White_Space), ("strings.asciiSpace", Rows.laid_strings_asciiSpace), ("unicode/utf8.first", Rows.laid_unicode_utf8_first)]
theorem asc_of {W : World} (h : laidMetH Tryz.prog laid W) : Asc 0 W := by
  rw [MakeChecks.laidMetH_plain _ _ _ (by kernel_rfl)] at h
  have h2 := h.filter fun x => x.1 == "strings.asciiSpace"
  have e : (laid.filter fun x => x.1 == "strings.asciiSpace") = [("strings.asciiSpace", Lib.tabData .u8 Lib.asciiSpaceTab)] := by rw [← tab_eq]; rfl
  rw [e] at h2
  exact Asc.of_laid gAsc tAsc Tryz.underlying230 Tryz.underlying5 cells8 cells256 h2
set_option maxRecDepth 100000 in
theorem lifted (os : Os) (started : os.Started) (H : Type) (enc : TypeId × Value → H) :
    ReturnsInHanded {} Tryz.checked os 9 .any (fun w args => (Rows.computedPseudoSpec.pre enc Tryz.prog Tryz.f9 [] false w args ∧ laidMetH Tryz.prog laid w) ∧ sizedMet enc Tryz.prog Tryz.f9 (OpenSpec.ofChange Rows.computedPseudoSpec) false w args)
      (Rows.computedPseudoSpec.post enc Tryz.prog Tryz.f9 false true false false) := by
  refine returnsInHanded_of_change_and (C := Tryz.checked) (X := fun w _ => laidMetH Tryz.prog laid w) (fun _ _ _ hh h => h.of_heap hh) own started (by kernel_rfl) Tryz.func9
    (ChangeSpec.witness_shaped (enc := enc) (C := Tryz.checked) (os := os) (X := fun w _ => laidMetH Tryz.prog laid w) false (World.laidAll Tryz.prog os laid) #[.int .i64 0] 8 (World.laidAll_os _ _ _)
      (World.shaped_of_ZipB (by kernel_rfl) (by kernel_rfl)) (by kernel_rfl) (by kernel_rfl) (by kernel_rfl)
      (by rw [MakeChecks.laidMetH_plain _ _ _ (by kernel_rfl)]; exact laidMet_laidAll _ (by kernel_rfl) (by kernel_rfl))) ?_
  intro W base args ds gs before hval0 hW _ _ hL _
  have hval : ∀ (j : Nat) t v, Tryz.f9.params[j]? = some t → args[j]? = some v → Value.okWide Tryz.prog W .any base t v := hval0
  have hW' := hW
  obtain ⟨p, q, hA0, hV, rfl, hfz, hnd⟩ := hW
  have hA : DataW.TrodAll enc Tryz.prog W 0 (fun _ => true) true Tryz.f9.params.toList args.toList ds p := hA0
  rw [Tryz.params9] at hA hval
  obtain ⟨v0, vs0, d0, ds0, p0, q0, hargs, rfl, rfl, h0, r0⟩ := trodAll_cons hA
  obtain ⟨rfl, rfl, rfl⟩ := trodAll_nil r0
  obtain rfl : args = #[v0] := by cases args; simp_all
  obtain ⟨rfl, rfl⟩ := trodVars_none hV
  obtain ⟨a0, rfl, rfl, rfl, w0⟩ := open_int Tryz.underlying3 (hval 0 3 v0 rfl rfl) h0
  clear hA0 hval0
  refine (computedPseudo_law a0 W (asc_of hL)).mono fun e W' ⟨he, bel⟩ => ?_
  subst he
  exact ⟨_, rfl, _, _, _, [], _, [], hW', trodAll_mk1 (shut_bool Tryz.underlying4 _), (trodAll_cons_mk (shut_int Tryz.underlying3 w0) trodAll_mk0), rfl, bel.frame _, fun h => by cases h⟩
set_option maxHeartbeats 4000000 in
theorem closed : joinedFacts Tryz.prog 9 Tryz.f9 Rows.computedPseudoSpec Rows.computedPseudoRow = true := by
  unfold joinedFacts
  simp only [Bool.and_eq_true]
  repeat' apply And.intro
  all_goals (as_aux_lemma => kernel_rfl)
theorem named : Tryz.prog.funcNamed "fleuron/fleuronlaw14.ComputedPseudo" = some 9 := by kernel_rfl
theorem byText : Rows.computedPseudoRow.wfByText (OpenSpec.ofChange Rows.computedPseudoSpec) = true := by kernel_rfl
theorem mainIs : Tryz.prog.mainIs = some (true, ("9e56c952ee759f68e7d9c2afcf32b133ca341923b68f9e098564d1582fe0c85e" : String).toList) := by kernel_rfl
theorem looks : false = Tryz.prog.looks [] := by kernel_rfl
theorem goes : false = Rows.computedPseudoRow.goesBy Tryz.prog := by kernel_rfl
theorem over : Rows.computedPseudoRow.holds Tryz.pinned (OpenSpec.ofChange Rows.computedPseudoSpec) :=
  OpenClaim.holds_of_wide 9 Tryz.f9 rfl rfl rfl rfl rfl rfl rfl ⟨rfl, rfl, rfl, rfl, rfl⟩ rfl rfl rfl rfl rfl named Tryz.func9 closed
    (of_decide_eq_true (by as_aux_lemma => kernel_rfl)) (by unfold Func.isWrapper; first | (rw [if_pos (by decide +kernel)]; kernel_rfl) | (rw [if_neg (by decide +kernel)]; exact ⟨rfl, rfl⟩))
    (fun os started H enc _ => lifted os started H enc)
end Go.Proofs.YtbaaogkpkgffdaaGreatDoor.computedPseudo
namespace Go.Proofs.YtbaaogkpkgffdaaGreatDoor
open Go
/-- the tied card of ComputedPseudo: for every input the law returns true -/
theorem computedPseudo_card : Rows.ComputedPseudoCardSaid :=
  Claim7.holds_tied_plain_at .later [] [.data, .listed, .data, .pinned] true (true, "9e56c952ee759f68e7d9c2afcf32b133ca341923b68f9e098564d1582fe0c85e") false
    computedPseudo.over (fun _ h => by cases h) computedPseudo.byText (fun _ h => by cases h) computedPseudo_row_tie rfl ⟨rfl, rfl⟩ computedPseudo.mainIs rfl
    (fun f fn hf hfn => by
      obtain rfl : f = 9 := Option.some.inj (computedPseudo.named.symm.trans hf) |>.symm
      obtain rfl : fn = Tryz.f9 := (Option.some.inj (Tryz.func9.symm.trans hfn)).symm
      exact ⟨computedPseudo.looks, fun j t ht => by
        rw [Tryz.params9] at ht
        have hm : t ∈ [3] := by simpa using Array.mem_of_getElem? ht
        have hall : ([3].all fun u => !Tryz.prog.wantsStandIn u) = true := by as_aux_lemma => kernel_rfl
        exact (show Tryz.prog.wantsStandIn t = false by simpa using List.all_eq_true.1 hall t hm)⟩)
    computedPseudo.goes
#print axioms computedPseudo_card
end Go.Proofs.YtbaaogkpkgffdaaGreatDoor
