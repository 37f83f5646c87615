/-
  DERIVED. GIVEN WITH THE SEED: THE CARDS: each row of YtgppfalpncbmbaaDoorRows.lean that lists a variable, with what it lists TIED to the program's text (the seventh form; the later family's looks); each row that meets fmt, with fmt's text TOLD by the authors' own Lean function (tested against real Go, not proved from fmt's source: count such statements apart). THE CARD IS WHAT COUNTS. Prove the row's statement (the work); the ties are given (YtgppfalpncbmbaaDoorTie.lean); close each card by the builder's one call (the guide's Derived/Test/ToyasCard.lean, 'card_holds'). Laid BY PROGRAM, IN A SANDBOX (cutbox-door.mjs). By AI agents, Wed Nov 11 2026. No macro, syntax, notation, axiom, sorry.
-/
import Derived.Test.YtgppfalpncbmbaaDoorRows
import GoSem.ClaimSeven
namespace Go.Proofs.YtgppfalpncbmbaaDoor
namespace Rows

/-- THE TIED CARD OF 'majordomolaw03.LayoutParts'. -/
def layoutPartsCard : Claim7 := { stood := { row := layoutPartsRow, standIns := [], harness := (true, "446e59813fc2d184b464301dde39d4a776ec88ef2ae23ce4bcce08c9f378dd9e"), looks := false }, kinds := [], alts := [], laidByText := true, laidKinds := [.data, .data, .pinned], laidTests := true, laidLooks := .later }
def LayoutPartsCardSaid : Prop := Claim7.holds Tryd.pinned (.plain (OpenSpec.ofChange layoutPartsSpec)) layoutPartsCard

/-- THE TIED CARD OF 'majordomolaw03.LayoutPaths'. -/
def layoutPathsCard : Claim7 := { stood := { row := layoutPathsRow, standIns := [], harness := (true, "446e59813fc2d184b464301dde39d4a776ec88ef2ae23ce4bcce08c9f378dd9e"), looks := false }, kinds := [], alts := [], laidByText := true, laidKinds := [.data, .data, .pinned], laidTests := true, laidLooks := .later }
def LayoutPathsCardSaid : Prop := Claim7.holds Tryd.pinned (.plain (OpenSpec.ofChange layoutPathsSpec)) layoutPathsCard

/-- THE TIED CARD OF 'majordomolaw03.LayoutCosts'. -/
def layoutCostsCard : Claim7 := { stood := { row := layoutCostsRow, standIns := [], harness := (true, "446e59813fc2d184b464301dde39d4a776ec88ef2ae23ce4bcce08c9f378dd9e"), looks := false }, kinds := [], alts := [], laidByText := true, laidKinds := [.data, .data, .pinned], laidTests := true, laidLooks := .later }
def LayoutCostsCardSaid : Prop := Claim7.holds Tryd.pinned (.plain (OpenSpec.ofChange layoutCostsSpec)) layoutCostsCard

/-- THE TIED CARD OF 'majordomolaw03.LayoutNames'. -/
def layoutNamesCard : Claim7 := { stood := { row := layoutNamesRow, standIns := [], harness := (true, "446e59813fc2d184b464301dde39d4a776ec88ef2ae23ce4bcce08c9f378dd9e"), looks := false }, kinds := [], alts := [], laidByText := true, laidKinds := [.data, .data, .pinned], laidTests := true, laidLooks := .later }
def LayoutNamesCardSaid : Prop := Claim7.holds Tryd.pinned (.plain (OpenSpec.ofChange layoutNamesSpec)) layoutNamesCard

/-- THE TIED CARD OF 'majordomolaw03.LayoutUnlike'. -/
def layoutUnlikeCard : Claim7 := { stood := { row := layoutUnlikeRow, standIns := [], harness := (true, "446e59813fc2d184b464301dde39d4a776ec88ef2ae23ce4bcce08c9f378dd9e"), looks := false }, kinds := [], alts := [], laidByText := true, laidKinds := [.data, .data, .pinned], laidTests := true, laidLooks := .later }
def LayoutUnlikeCardSaid : Prop := Claim7.holds Tryd.pinned (.plain (OpenSpec.ofChange layoutUnlikeSpec)) layoutUnlikeCard

/-- THE TIED CARD OF 'majordomolaw03.LayoutEntries'. -/
def layoutEntriesCard : Claim7 := { stood := { row := layoutEntriesRow, standIns := [], harness := (true, "446e59813fc2d184b464301dde39d4a776ec88ef2ae23ce4bcce08c9f378dd9e"), looks := false }, kinds := [], alts := [], laidByText := true, laidKinds := [.data, .data, .pinned], laidTests := true, laidLooks := .later }
def LayoutEntriesCardSaid : Prop := Claim7.holds Tryd.pinned (.plain (OpenSpec.ofChange layoutEntriesSpec)) layoutEntriesCard

/-- THE TIED CARD OF 'majordomolaw03.LayoutNodes'. -/
def layoutNodesCard : Claim7 := { stood := { row := layoutNodesRow, standIns := [], harness := (true, "446e59813fc2d184b464301dde39d4a776ec88ef2ae23ce4bcce08c9f378dd9e"), looks := false }, kinds := [], alts := [], laidByText := true, laidKinds := [.data, .data, .pinned], laidTests := true, laidLooks := .later }
def LayoutNodesCardSaid : Prop := Claim7.holds Tryd.pinned (.plain (OpenSpec.ofChange layoutNodesSpec)) layoutNodesCard

/-- THE TIED CARD OF 'majordomolaw03.LayoutTakes'. -/
def layoutTakesCard : Claim7 := { stood := { row := layoutTakesRow, standIns := [], harness := (true, "446e59813fc2d184b464301dde39d4a776ec88ef2ae23ce4bcce08c9f378dd9e"), looks := false }, kinds := [], alts := [], laidByText := true, laidKinds := [.data, .data, .pinned], laidTests := true, laidLooks := .later }
def LayoutTakesCardSaid : Prop := Claim7.holds Tryd.pinned (.plain (OpenSpec.ofChange layoutTakesSpec)) layoutTakesCard

/-- THE SECOND FORM's CARD OF 'majordomolaw03.LayoutParts'. -/
def layoutPartsUptoCard : Claim7 := { stood := { row := layoutPartsUptoRow, standIns := [], harness := (true, "446e59813fc2d184b464301dde39d4a776ec88ef2ae23ce4bcce08c9f378dd9e"), looks := false }, kinds := [], alts := [], laidByText := true, laidKinds := [.data, .data, .pinned], laidTests := true, laidLooks := .later }
def LayoutPartsUptoCardSaid : Prop := Claim7.holds Tryd.pinned (.plain (OpenSpec.upto layoutPartsSpec)) layoutPartsUptoCard

/-- THE SECOND FORM's CARD OF 'majordomolaw03.LayoutPaths'. -/
def layoutPathsUptoCard : Claim7 := { stood := { row := layoutPathsUptoRow, standIns := [], harness := (true, "446e59813fc2d184b464301dde39d4a776ec88ef2ae23ce4bcce08c9f378dd9e"), looks := false }, kinds := [], alts := [], laidByText := true, laidKinds := [.data, .data, .pinned], laidTests := true, laidLooks := .later }
def LayoutPathsUptoCardSaid : Prop := Claim7.holds Tryd.pinned (.plain (OpenSpec.upto layoutPathsSpec)) layoutPathsUptoCard

/-- THE SECOND FORM's CARD OF 'majordomolaw03.LayoutCosts'. -/
def layoutCostsUptoCard : Claim7 := { stood := { row := layoutCostsUptoRow, standIns := [], harness := (true, "446e59813fc2d184b464301dde39d4a776ec88ef2ae23ce4bcce08c9f378dd9e"), looks := false }, kinds := [], alts := [], laidByText := true, laidKinds := [.data, .data, .pinned], laidTests := true, laidLooks := .later }
def LayoutCostsUptoCardSaid : Prop := Claim7.holds Tryd.pinned (.plain (OpenSpec.upto layoutCostsSpec)) layoutCostsUptoCard

/-- THE SECOND FORM's CARD OF 'majordomolaw03.LayoutNames'. -/
def layoutNamesUptoCard : Claim7 := { stood := { row := layoutNamesUptoRow, standIns := [], harness := (true, "446e59813fc2d184b464301dde39d4a776ec88ef2ae23ce4bcce08c9f378dd9e"), looks := false }, kinds := [], alts := [], laidByText := true, laidKinds := [.data, .data, .pinned], laidTests := true, laidLooks := .later }
def LayoutNamesUptoCardSaid : Prop := Claim7.holds Tryd.pinned (.plain (OpenSpec.upto layoutNamesSpec)) layoutNamesUptoCard

/-- THE SECOND FORM's CARD OF 'majordomolaw03.LayoutUnlike'. -/
def layoutUnlikeUptoCard : Claim7 := { stood := { row := layoutUnlikeUptoRow, standIns := [], harness := (true, "446e59813fc2d184b464301dde39d4a776ec88ef2ae23ce4bcce08c9f378dd9e"), looks := false }, kinds := [], alts := [], laidByText := true, laidKinds := [.data, .data, .pinned], laidTests := true, laidLooks := .later }
def LayoutUnlikeUptoCardSaid : Prop := Claim7.holds Tryd.pinned (.plain (OpenSpec.upto layoutUnlikeSpec)) layoutUnlikeUptoCard

/-- THE SECOND FORM's CARD OF 'majordomolaw03.LayoutEntries'. -/
def layoutEntriesUptoCard : Claim7 := { stood := { row := layoutEntriesUptoRow, standIns := [], harness := (true, "446e59813fc2d184b464301dde39d4a776ec88ef2ae23ce4bcce08c9f378dd9e"), looks := false }, kinds := [], alts := [], laidByText := true, laidKinds := [.data, .data, .pinned], laidTests := true, laidLooks := .later }
def LayoutEntriesUptoCardSaid : Prop := Claim7.holds Tryd.pinned (.plain (OpenSpec.upto layoutEntriesSpec)) layoutEntriesUptoCard

/-- THE SECOND FORM's CARD OF 'majordomolaw03.LayoutNodes'. -/
def layoutNodesUptoCard : Claim7 := { stood := { row := layoutNodesUptoRow, standIns := [], harness := (true, "446e59813fc2d184b464301dde39d4a776ec88ef2ae23ce4bcce08c9f378dd9e"), looks := false }, kinds := [], alts := [], laidByText := true, laidKinds := [.data, .data, .pinned], laidTests := true, laidLooks := .later }
def LayoutNodesUptoCardSaid : Prop := Claim7.holds Tryd.pinned (.plain (OpenSpec.upto layoutNodesSpec)) layoutNodesUptoCard

/-- THE SECOND FORM's CARD OF 'majordomolaw03.LayoutTakes'. -/
def layoutTakesUptoCard : Claim7 := { stood := { row := layoutTakesUptoRow, standIns := [], harness := (true, "446e59813fc2d184b464301dde39d4a776ec88ef2ae23ce4bcce08c9f378dd9e"), looks := false }, kinds := [], alts := [], laidByText := true, laidKinds := [.data, .data, .pinned], laidTests := true, laidLooks := .later }
def LayoutTakesUptoCardSaid : Prop := Claim7.holds Tryd.pinned (.plain (OpenSpec.upto layoutTakesSpec)) layoutTakesUptoCard
end Rows
end Go.Proofs.YtgppfalpncbmbaaDoor
