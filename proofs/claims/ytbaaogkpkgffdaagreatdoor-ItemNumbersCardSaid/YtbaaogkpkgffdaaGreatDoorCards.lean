/-
  DERIVED. GIVEN WITH THE SEED: THE CARDS: each row of YtbaaogkpkgffdaaGreatDoorRows.lean that lists a variable, with what it lists TIED to the program's text (the seventh form; the later family's looks); each row that meets fmt, with fmt's text TOLD by the authors' own Lean function (tested against real Go, not proved from fmt's source: count such statements apart). THE CARD IS WHAT COUNTS. Prove the row's statement (the work); the ties are given (YtbaaogkpkgffdaaGreatDoorTie.lean); close each card by the builder's one call (the guide's Derived/Test/ToyasCard.lean, 'card_holds'). Laid BY PROGRAM, IN A SANDBOX (cutbox-door.mjs). By AI agents, Wed Nov 11 2026. No macro, syntax, notation, axiom, sorry.
-/
import Derived.Test.YtbaaogkpkgffdaaGreatDoorRows
import GoSem.ClaimSeven
namespace Go.Proofs.YtbaaogkpkgffdaaGreatDoor
namespace Rows

/-- THE TIED CARD OF 'fleuronlaw13.CascadeOrder'. -/
def cascadeOrderCard : Claim7 := { stood := { row := cascadeOrderRow, standIns := [], harness := (true, "9e56c952ee759f68e7d9c2afcf32b133ca341923b68f9e098564d1582fe0c85e"), looks := false }, kinds := [], alts := [], laidByText := true, laidKinds := [.data, .listed, .data, .pinned], laidTests := true, laidLooks := .later }
def CascadeOrderCardSaid : Prop := Claim7.holds Tryz.pinned (.plain (OpenSpec.ofChange cascadeOrderSpec)) cascadeOrderCard

/-- THE TIED CARD OF 'fleuronlaw13.CascadeRow'. -/
def cascadeRowCard : Claim7 := { stood := { row := cascadeRowRow, standIns := [], harness := (true, "9e56c952ee759f68e7d9c2afcf32b133ca341923b68f9e098564d1582fe0c85e"), looks := false }, kinds := [], alts := [], laidByText := true, laidKinds := [.data, .listed, .data, .pinned], laidTests := true, laidLooks := .later }
def CascadeRowCardSaid : Prop := Claim7.holds Tryz.pinned (.plain (OpenSpec.ofChange cascadeRowSpec)) cascadeRowCard

/-- THE TIED CARD OF 'fleuronlaw13.CascadeList'. -/
def cascadeListCard : Claim7 := { stood := { row := cascadeListRow, standIns := [], harness := (true, "9e56c952ee759f68e7d9c2afcf32b133ca341923b68f9e098564d1582fe0c85e"), looks := false }, kinds := [], alts := [], laidByText := true, laidKinds := [.data, .listed, .data, .pinned], laidTests := true, laidLooks := .later }
def CascadeListCardSaid : Prop := Claim7.holds Tryz.pinned (.plain (OpenSpec.ofChange cascadeListSpec)) cascadeListCard

/-- THE TIED CARD OF 'fleuronlaw13.CascadePseudos'. -/
def cascadePseudosCard : Claim7 := { stood := { row := cascadePseudosRow, standIns := [], harness := (true, "9e56c952ee759f68e7d9c2afcf32b133ca341923b68f9e098564d1582fe0c85e"), looks := false }, kinds := [], alts := [], laidByText := true, laidKinds := [.data, .listed, .data, .pinned], laidTests := true, laidLooks := .later }
def CascadePseudosCardSaid : Prop := Claim7.holds Tryz.pinned (.plain (OpenSpec.ofChange cascadePseudosSpec)) cascadePseudosCard

/-- THE TIED CARD OF 'fleuronlaw14.ComputedOf'. -/
def computedOfCard : Claim7 := { stood := { row := computedOfRow, standIns := [], harness := (true, "9e56c952ee759f68e7d9c2afcf32b133ca341923b68f9e098564d1582fe0c85e"), looks := false }, kinds := [], alts := [], laidByText := true, laidKinds := [.data, .listed, .data, .pinned], laidTests := true, laidLooks := .later }
def ComputedOfCardSaid : Prop := Claim7.holds Tryz.pinned (.plain (OpenSpec.ofChange computedOfSpec)) computedOfCard

/-- THE TIED CARD OF 'fleuronlaw14.ComputedChain'. -/
def computedChainCard : Claim7 := { stood := { row := computedChainRow, standIns := [], harness := (true, "9e56c952ee759f68e7d9c2afcf32b133ca341923b68f9e098564d1582fe0c85e"), looks := false }, kinds := [], alts := [], laidByText := true, laidKinds := [.data, .listed, .data, .pinned], laidTests := true, laidLooks := .later }
def ComputedChainCardSaid : Prop := Claim7.holds Tryz.pinned (.plain (OpenSpec.ofChange computedChainSpec)) computedChainCard

/-- THE TIED CARD OF 'fleuronlaw14.ComputedPseudo'. -/
def computedPseudoCard : Claim7 := { stood := { row := computedPseudoRow, standIns := [], harness := (true, "9e56c952ee759f68e7d9c2afcf32b133ca341923b68f9e098564d1582fe0c85e"), looks := false }, kinds := [], alts := [], laidByText := true, laidKinds := [.data, .listed, .data, .pinned], laidTests := true, laidLooks := .later }
def ComputedPseudoCardSaid : Prop := Claim7.holds Tryz.pinned (.plain (OpenSpec.ofChange computedPseudoSpec)) computedPseudoCard

/-- THE TIED CARD OF 'fleuronlaw14.ComputedWides'. -/
def computedWidesCard : Claim7 := { stood := { row := computedWidesRow, standIns := [], harness := (true, "9e56c952ee759f68e7d9c2afcf32b133ca341923b68f9e098564d1582fe0c85e"), looks := false }, kinds := [], alts := [], laidByText := true, laidKinds := [.data, .listed, .data, .pinned], laidTests := true, laidLooks := .later }
def ComputedWidesCardSaid : Prop := Claim7.holds Tryz.pinned (.plain (OpenSpec.ofChange computedWidesSpec)) computedWidesCard

/-- THE TIED CARD OF 'fleuronlaw16.ItemNumbers'. -/
def itemNumbersCard : Claim7 := { stood := { row := itemNumbersRow, standIns := [], harness := (true, "9e56c952ee759f68e7d9c2afcf32b133ca341923b68f9e098564d1582fe0c85e"), looks := false }, kinds := [], alts := [], laidByText := true, laidKinds := [.data, .listed, .data, .pinned], laidTests := true, laidLooks := .later }
def ItemNumbersCardSaid : Prop := Claim7.holds Tryz.pinned (.plain (OpenSpec.ofChange itemNumbersSpec)) itemNumbersCard

/-- THE TIED CARD OF 'fleuronlaw16.ItemStarts'. -/
def itemStartsCard : Claim7 := { stood := { row := itemStartsRow, standIns := [], harness := (true, "9e56c952ee759f68e7d9c2afcf32b133ca341923b68f9e098564d1582fe0c85e"), looks := false }, kinds := [], alts := [], laidByText := true, laidKinds := [.data, .listed, .data, .pinned], laidTests := true, laidLooks := .later }
def ItemStartsCardSaid : Prop := Claim7.holds Tryz.pinned (.plain (OpenSpec.ofChange itemStartsSpec)) itemStartsCard

/-- THE TIED CARD OF 'fleuronlaw16.ItemSteps'. -/
def itemStepsCard : Claim7 := { stood := { row := itemStepsRow, standIns := [], harness := (true, "9e56c952ee759f68e7d9c2afcf32b133ca341923b68f9e098564d1582fe0c85e"), looks := false }, kinds := [], alts := [], laidByText := true, laidKinds := [.data, .listed, .data, .pinned], laidTests := true, laidLooks := .later }
def ItemStepsCardSaid : Prop := Claim7.holds Tryz.pinned (.plain (OpenSpec.ofChange itemStepsSpec)) itemStepsCard

/-- THE TIED CARD OF 'fleuronlaw16.ItemValues'. -/
def itemValuesCard : Claim7 := { stood := { row := itemValuesRow, standIns := [], harness := (true, "9e56c952ee759f68e7d9c2afcf32b133ca341923b68f9e098564d1582fe0c85e"), looks := false }, kinds := [], alts := [], laidByText := true, laidKinds := [.data, .listed, .data, .pinned], laidTests := true, laidLooks := .later }
def ItemValuesCardSaid : Prop := Claim7.holds Tryz.pinned (.plain (OpenSpec.ofChange itemValuesSpec)) itemValuesCard

/-- THE SECOND FORM's CARD OF 'fleuronlaw13.CascadeOrder'. -/
def cascadeOrderUptoCard : Claim7 := { stood := { row := cascadeOrderUptoRow, standIns := [], harness := (true, "9e56c952ee759f68e7d9c2afcf32b133ca341923b68f9e098564d1582fe0c85e"), looks := false }, kinds := [], alts := [], laidByText := true, laidKinds := [.data, .listed, .data, .pinned], laidTests := true, laidLooks := .later }
def CascadeOrderUptoCardSaid : Prop := Claim7.holds Tryz.pinned (.plain (OpenSpec.upto cascadeOrderSpec)) cascadeOrderUptoCard

/-- THE SECOND FORM's CARD OF 'fleuronlaw13.CascadeRow'. -/
def cascadeRowUptoCard : Claim7 := { stood := { row := cascadeRowUptoRow, standIns := [], harness := (true, "9e56c952ee759f68e7d9c2afcf32b133ca341923b68f9e098564d1582fe0c85e"), looks := false }, kinds := [], alts := [], laidByText := true, laidKinds := [.data, .listed, .data, .pinned], laidTests := true, laidLooks := .later }
def CascadeRowUptoCardSaid : Prop := Claim7.holds Tryz.pinned (.plain (OpenSpec.upto cascadeRowSpec)) cascadeRowUptoCard

/-- THE SECOND FORM's CARD OF 'fleuronlaw13.CascadeList'. -/
def cascadeListUptoCard : Claim7 := { stood := { row := cascadeListUptoRow, standIns := [], harness := (true, "9e56c952ee759f68e7d9c2afcf32b133ca341923b68f9e098564d1582fe0c85e"), looks := false }, kinds := [], alts := [], laidByText := true, laidKinds := [.data, .listed, .data, .pinned], laidTests := true, laidLooks := .later }
def CascadeListUptoCardSaid : Prop := Claim7.holds Tryz.pinned (.plain (OpenSpec.upto cascadeListSpec)) cascadeListUptoCard

/-- THE SECOND FORM's CARD OF 'fleuronlaw13.CascadePseudos'. -/
def cascadePseudosUptoCard : Claim7 := { stood := { row := cascadePseudosUptoRow, standIns := [], harness := (true, "9e56c952ee759f68e7d9c2afcf32b133ca341923b68f9e098564d1582fe0c85e"), looks := false }, kinds := [], alts := [], laidByText := true, laidKinds := [.data, .listed, .data, .pinned], laidTests := true, laidLooks := .later }
def CascadePseudosUptoCardSaid : Prop := Claim7.holds Tryz.pinned (.plain (OpenSpec.upto cascadePseudosSpec)) cascadePseudosUptoCard

/-- THE SECOND FORM's CARD OF 'fleuronlaw14.ComputedOf'. -/
def computedOfUptoCard : Claim7 := { stood := { row := computedOfUptoRow, standIns := [], harness := (true, "9e56c952ee759f68e7d9c2afcf32b133ca341923b68f9e098564d1582fe0c85e"), looks := false }, kinds := [], alts := [], laidByText := true, laidKinds := [.data, .listed, .data, .pinned], laidTests := true, laidLooks := .later }
def ComputedOfUptoCardSaid : Prop := Claim7.holds Tryz.pinned (.plain (OpenSpec.upto computedOfSpec)) computedOfUptoCard

/-- THE SECOND FORM's CARD OF 'fleuronlaw14.ComputedChain'. -/
def computedChainUptoCard : Claim7 := { stood := { row := computedChainUptoRow, standIns := [], harness := (true, "9e56c952ee759f68e7d9c2afcf32b133ca341923b68f9e098564d1582fe0c85e"), looks := false }, kinds := [], alts := [], laidByText := true, laidKinds := [.data, .listed, .data, .pinned], laidTests := true, laidLooks := .later }
def ComputedChainUptoCardSaid : Prop := Claim7.holds Tryz.pinned (.plain (OpenSpec.upto computedChainSpec)) computedChainUptoCard

/-- THE SECOND FORM's CARD OF 'fleuronlaw14.ComputedPseudo'. -/
def computedPseudoUptoCard : Claim7 := { stood := { row := computedPseudoUptoRow, standIns := [], harness := (true, "9e56c952ee759f68e7d9c2afcf32b133ca341923b68f9e098564d1582fe0c85e"), looks := false }, kinds := [], alts := [], laidByText := true, laidKinds := [.data, .listed, .data, .pinned], laidTests := true, laidLooks := .later }
def ComputedPseudoUptoCardSaid : Prop := Claim7.holds Tryz.pinned (.plain (OpenSpec.upto computedPseudoSpec)) computedPseudoUptoCard

/-- THE SECOND FORM's CARD OF 'fleuronlaw14.ComputedWides'. -/
def computedWidesUptoCard : Claim7 := { stood := { row := computedWidesUptoRow, standIns := [], harness := (true, "9e56c952ee759f68e7d9c2afcf32b133ca341923b68f9e098564d1582fe0c85e"), looks := false }, kinds := [], alts := [], laidByText := true, laidKinds := [.data, .listed, .data, .pinned], laidTests := true, laidLooks := .later }
def ComputedWidesUptoCardSaid : Prop := Claim7.holds Tryz.pinned (.plain (OpenSpec.upto computedWidesSpec)) computedWidesUptoCard

/-- THE SECOND FORM's CARD OF 'fleuronlaw16.ItemNumbers'. -/
def itemNumbersUptoCard : Claim7 := { stood := { row := itemNumbersUptoRow, standIns := [], harness := (true, "9e56c952ee759f68e7d9c2afcf32b133ca341923b68f9e098564d1582fe0c85e"), looks := false }, kinds := [], alts := [], laidByText := true, laidKinds := [.data, .listed, .data, .pinned], laidTests := true, laidLooks := .later }
def ItemNumbersUptoCardSaid : Prop := Claim7.holds Tryz.pinned (.plain (OpenSpec.upto itemNumbersSpec)) itemNumbersUptoCard

/-- THE SECOND FORM's CARD OF 'fleuronlaw16.ItemStarts'. -/
def itemStartsUptoCard : Claim7 := { stood := { row := itemStartsUptoRow, standIns := [], harness := (true, "9e56c952ee759f68e7d9c2afcf32b133ca341923b68f9e098564d1582fe0c85e"), looks := false }, kinds := [], alts := [], laidByText := true, laidKinds := [.data, .listed, .data, .pinned], laidTests := true, laidLooks := .later }
def ItemStartsUptoCardSaid : Prop := Claim7.holds Tryz.pinned (.plain (OpenSpec.upto itemStartsSpec)) itemStartsUptoCard

/-- THE SECOND FORM's CARD OF 'fleuronlaw16.ItemSteps'. -/
def itemStepsUptoCard : Claim7 := { stood := { row := itemStepsUptoRow, standIns := [], harness := (true, "9e56c952ee759f68e7d9c2afcf32b133ca341923b68f9e098564d1582fe0c85e"), looks := false }, kinds := [], alts := [], laidByText := true, laidKinds := [.data, .listed, .data, .pinned], laidTests := true, laidLooks := .later }
def ItemStepsUptoCardSaid : Prop := Claim7.holds Tryz.pinned (.plain (OpenSpec.upto itemStepsSpec)) itemStepsUptoCard

/-- THE SECOND FORM's CARD OF 'fleuronlaw16.ItemValues'. -/
def itemValuesUptoCard : Claim7 := { stood := { row := itemValuesUptoRow, standIns := [], harness := (true, "9e56c952ee759f68e7d9c2afcf32b133ca341923b68f9e098564d1582fe0c85e"), looks := false }, kinds := [], alts := [], laidByText := true, laidKinds := [.data, .listed, .data, .pinned], laidTests := true, laidLooks := .later }
def ItemValuesUptoCardSaid : Prop := Claim7.holds Tryz.pinned (.plain (OpenSpec.upto itemValuesSpec)) itemValuesUptoCard
end Rows
end Go.Proofs.YtbaaogkpkgffdaaGreatDoor
