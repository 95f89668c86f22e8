/-
  DERIVED. GIVEN WITH THE SEED: THE CARDS: each row of YtenlioajflbegaaDoorRows.lean that lists a variable, with what it lists TIED to the program's text (the seventh form; the later family's looks); each row that meets fmt, with fmt's text TOLD by the authors' own Lean function (tested against real Go, not proved from fmt's source: count such statements apart). THE CARD IS WHAT COUNTS. Prove the row's statement (the work); the ties are given (YtenlioajflbegaaDoorTie.lean); close each card by the builder's one call (the guide's Derived/Test/ToyasCard.lean, 'card_holds'). Laid BY PROGRAM, IN A SANDBOX (cutbox-door.mjs). By AI agents, Wed Nov 11 2026. No macro, syntax, notation, axiom, sorry.
-/
import Derived.Test.YtenlioajflbegaaDoorRows
import GoSem.ClaimSeven
namespace Go.Proofs.YtenlioajflbegaaDoor
namespace Rows

/-- THE TIED CARD OF 'octroilaw02.PrefixTexts'. -/
def prefixTextsCard : Claim7 := { stood := { row := prefixTextsRow, standIns := [], harness := (true, "83dd02252d2ab9c81f5784a033fa8836acf5ba17f44a2d5256e582a41a78b3f5"), looks := true }, kinds := [], alts := [], laidByText := true, laidKinds := [.data, .data, .data, .sentinel, .sentinel], laidTests := true, laidLooks := .later }
def PrefixTextsCardSaid : Prop := Claim7.holds Tryd.pinned (.plain (OpenSpec.ofChange prefixTextsSpec)) prefixTextsCard

/-- THE TIED CARD OF 'octroilaw02.PrefixBack'. -/
def prefixBackCard : Claim7 := { stood := { row := prefixBackRow, standIns := [], harness := (true, "83dd02252d2ab9c81f5784a033fa8836acf5ba17f44a2d5256e582a41a78b3f5"), looks := true }, kinds := [], alts := [], laidByText := true, laidKinds := [.data, .data, .data, .sentinel, .sentinel], laidTests := true, laidLooks := .later }
def PrefixBackCardSaid : Prop := Claim7.holds Tryd.pinned (.plain (OpenSpec.ofChange prefixBackSpec)) prefixBackCard

/-- THE TIED CARD OF 'octroilaw02.PrefixNests'. -/
def prefixNestsCard : Claim7 := { stood := { row := prefixNestsRow, standIns := [], harness := (true, "83dd02252d2ab9c81f5784a033fa8836acf5ba17f44a2d5256e582a41a78b3f5"), looks := true }, kinds := [], alts := [], laidByText := true, laidKinds := [.data, .data, .data, .sentinel, .sentinel], laidTests := true, laidLooks := .later }
def PrefixNestsCardSaid : Prop := Claim7.holds Tryd.pinned (.plain (OpenSpec.ofChange prefixNestsSpec)) prefixNestsCard

/-- THE TIED CARD OF 'octroilaw02.PrefixHalves'. -/
def prefixHalvesCard : Claim7 := { stood := { row := prefixHalvesRow, standIns := [], harness := (true, "83dd02252d2ab9c81f5784a033fa8836acf5ba17f44a2d5256e582a41a78b3f5"), looks := true }, kinds := [], alts := [], laidByText := true, laidKinds := [.data, .data, .data, .sentinel, .sentinel], laidTests := true, laidLooks := .later }
def PrefixHalvesCardSaid : Prop := Claim7.holds Tryd.pinned (.plain (OpenSpec.ofChange prefixHalvesSpec)) prefixHalvesCard

/-- THE TIED CARD OF 'octroilaw02.PrefixHas'. -/
def prefixHasCard : Claim7 := { stood := { row := prefixHasRow, standIns := [], harness := (true, "83dd02252d2ab9c81f5784a033fa8836acf5ba17f44a2d5256e582a41a78b3f5"), looks := true }, kinds := [], alts := [], laidByText := true, laidKinds := [.data, .data, .data, .sentinel, .sentinel], laidTests := true, laidLooks := .later }
def PrefixHasCardSaid : Prop := Claim7.holds Tryd.pinned (.plain (OpenSpec.ofChange prefixHasSpec)) prefixHasCard

/-- THE TIED CARD OF 'octroilaw02.PrefixOrders'. -/
def prefixOrdersCard : Claim7 := { stood := { row := prefixOrdersRow, standIns := [], harness := (true, "83dd02252d2ab9c81f5784a033fa8836acf5ba17f44a2d5256e582a41a78b3f5"), looks := true }, kinds := [], alts := [], laidByText := true, laidKinds := [.data, .data, .data, .sentinel, .sentinel], laidTests := true, laidLooks := .later }
def PrefixOrdersCardSaid : Prop := Claim7.holds Tryd.pinned (.plain (OpenSpec.ofChange prefixOrdersSpec)) prefixOrdersCard

/-- THE TIED CARD OF 'octroilaw02.PrefixMakes'. -/
def prefixMakesCard : Claim7 := { stood := { row := prefixMakesRow, standIns := [], harness := (true, "83dd02252d2ab9c81f5784a033fa8836acf5ba17f44a2d5256e582a41a78b3f5"), looks := true }, kinds := [], alts := [], laidByText := true, laidKinds := [.data, .data, .data, .sentinel, .sentinel], laidTests := true, laidLooks := .later }
def PrefixMakesCardSaid : Prop := Claim7.holds Tryd.pinned (.plain (OpenSpec.ofChange prefixMakesSpec)) prefixMakesCard

/-- THE TIED CARD OF 'octroilaw02.PrefixMasks'. -/
def prefixMasksCard : Claim7 := { stood := { row := prefixMasksRow, standIns := [], harness := (true, "83dd02252d2ab9c81f5784a033fa8836acf5ba17f44a2d5256e582a41a78b3f5"), looks := true }, kinds := [], alts := [], laidByText := true, laidKinds := [.data, .data, .data, .sentinel, .sentinel], laidTests := true, laidLooks := .later }
def PrefixMasksCardSaid : Prop := Claim7.holds Tryd.pinned (.plain (OpenSpec.ofChange prefixMasksSpec)) prefixMasksCard

/-- THE SECOND FORM's CARD OF 'octroilaw02.PrefixTexts'. -/
def prefixTextsUptoCard : Claim7 := { stood := { row := prefixTextsUptoRow, standIns := [], harness := (true, "83dd02252d2ab9c81f5784a033fa8836acf5ba17f44a2d5256e582a41a78b3f5"), looks := true }, kinds := [], alts := [], laidByText := true, laidKinds := [.data, .data, .data, .sentinel, .sentinel], laidTests := true, laidLooks := .later }
def PrefixTextsUptoCardSaid : Prop := Claim7.holds Tryd.pinned (.plain (OpenSpec.upto prefixTextsSpec)) prefixTextsUptoCard

/-- THE SECOND FORM's CARD OF 'octroilaw02.PrefixBack'. -/
def prefixBackUptoCard : Claim7 := { stood := { row := prefixBackUptoRow, standIns := [], harness := (true, "83dd02252d2ab9c81f5784a033fa8836acf5ba17f44a2d5256e582a41a78b3f5"), looks := true }, kinds := [], alts := [], laidByText := true, laidKinds := [.data, .data, .data, .sentinel, .sentinel], laidTests := true, laidLooks := .later }
def PrefixBackUptoCardSaid : Prop := Claim7.holds Tryd.pinned (.plain (OpenSpec.upto prefixBackSpec)) prefixBackUptoCard

/-- THE SECOND FORM's CARD OF 'octroilaw02.PrefixNests'. -/
def prefixNestsUptoCard : Claim7 := { stood := { row := prefixNestsUptoRow, standIns := [], harness := (true, "83dd02252d2ab9c81f5784a033fa8836acf5ba17f44a2d5256e582a41a78b3f5"), looks := true }, kinds := [], alts := [], laidByText := true, laidKinds := [.data, .data, .data, .sentinel, .sentinel], laidTests := true, laidLooks := .later }
def PrefixNestsUptoCardSaid : Prop := Claim7.holds Tryd.pinned (.plain (OpenSpec.upto prefixNestsSpec)) prefixNestsUptoCard

/-- THE SECOND FORM's CARD OF 'octroilaw02.PrefixHalves'. -/
def prefixHalvesUptoCard : Claim7 := { stood := { row := prefixHalvesUptoRow, standIns := [], harness := (true, "83dd02252d2ab9c81f5784a033fa8836acf5ba17f44a2d5256e582a41a78b3f5"), looks := true }, kinds := [], alts := [], laidByText := true, laidKinds := [.data, .data, .data, .sentinel, .sentinel], laidTests := true, laidLooks := .later }
def PrefixHalvesUptoCardSaid : Prop := Claim7.holds Tryd.pinned (.plain (OpenSpec.upto prefixHalvesSpec)) prefixHalvesUptoCard

/-- THE SECOND FORM's CARD OF 'octroilaw02.PrefixHas'. -/
def prefixHasUptoCard : Claim7 := { stood := { row := prefixHasUptoRow, standIns := [], harness := (true, "83dd02252d2ab9c81f5784a033fa8836acf5ba17f44a2d5256e582a41a78b3f5"), looks := true }, kinds := [], alts := [], laidByText := true, laidKinds := [.data, .data, .data, .sentinel, .sentinel], laidTests := true, laidLooks := .later }
def PrefixHasUptoCardSaid : Prop := Claim7.holds Tryd.pinned (.plain (OpenSpec.upto prefixHasSpec)) prefixHasUptoCard

/-- THE SECOND FORM's CARD OF 'octroilaw02.PrefixOrders'. -/
def prefixOrdersUptoCard : Claim7 := { stood := { row := prefixOrdersUptoRow, standIns := [], harness := (true, "83dd02252d2ab9c81f5784a033fa8836acf5ba17f44a2d5256e582a41a78b3f5"), looks := true }, kinds := [], alts := [], laidByText := true, laidKinds := [.data, .data, .data, .sentinel, .sentinel], laidTests := true, laidLooks := .later }
def PrefixOrdersUptoCardSaid : Prop := Claim7.holds Tryd.pinned (.plain (OpenSpec.upto prefixOrdersSpec)) prefixOrdersUptoCard

/-- THE SECOND FORM's CARD OF 'octroilaw02.PrefixMakes'. -/
def prefixMakesUptoCard : Claim7 := { stood := { row := prefixMakesUptoRow, standIns := [], harness := (true, "83dd02252d2ab9c81f5784a033fa8836acf5ba17f44a2d5256e582a41a78b3f5"), looks := true }, kinds := [], alts := [], laidByText := true, laidKinds := [.data, .data, .data, .sentinel, .sentinel], laidTests := true, laidLooks := .later }
def PrefixMakesUptoCardSaid : Prop := Claim7.holds Tryd.pinned (.plain (OpenSpec.upto prefixMakesSpec)) prefixMakesUptoCard

/-- THE SECOND FORM's CARD OF 'octroilaw02.PrefixMasks'. -/
def prefixMasksUptoCard : Claim7 := { stood := { row := prefixMasksUptoRow, standIns := [], harness := (true, "83dd02252d2ab9c81f5784a033fa8836acf5ba17f44a2d5256e582a41a78b3f5"), looks := true }, kinds := [], alts := [], laidByText := true, laidKinds := [.data, .data, .data, .sentinel, .sentinel], laidTests := true, laidLooks := .later }
def PrefixMasksUptoCardSaid : Prop := Claim7.holds Tryd.pinned (.plain (OpenSpec.upto prefixMasksSpec)) prefixMasksUptoCard
end Rows
end Go.Proofs.YtenlioajflbegaaDoor
