/-
  DERIVED. GIVEN WITH THE SEED: THE CARDS: each row of YtjjhopcbipedaaaDoorRows.lean that lists a variable, with what it lists TIED to the program's text (the seventh form; the later family's looks); each row that meets fmt, with fmt's text TOLD by the authors' own Lean function (tested against real Go, not proved from fmt's source: count such statements apart). THE CARD IS WHAT COUNTS. Prove the row's statement (the work); the ties are given (YtjjhopcbipedaaaDoorTie.lean); close each card by the builder's one call (the guide's Derived/Test/ToyasCard.lean, 'card_holds'). Laid BY PROGRAM, IN A SANDBOX (cutbox-door.mjs). By AI agents, Wed Nov 11 2026. No macro, syntax, notation, axiom, sorry.
-/
import Derived.Test.YtjjhopcbipedaaaDoorRows
import GoSem.ClaimSeven
namespace Go.Proofs.YtjjhopcbipedaaaDoor
namespace Rows

/-- THE TIED CARD OF 'majordomolaw11.LexerBetween'. -/
def lexerBetweenCard : Claim7 := { stood := { row := lexerBetweenRow, standIns := [], harness := (true, "a260d446c5f377afacae67317fa23c4a6d4f7487e5e2ef72aee0ebd4fd5de286"), looks := false }, kinds := [], alts := [], laidByText := true, laidKinds := [.data], laidTests := true, laidLooks := .later }
def LexerBetweenCardSaid : Prop := Claim7.holds Tryd.pinned (.plain (OpenSpec.ofChange lexerBetweenSpec)) lexerBetweenCard

/-- THE TIED CARD OF 'majordomolaw11.LexerJoins'. -/
def lexerJoinsCard : Claim7 := { stood := { row := lexerJoinsRow, standIns := [], harness := (true, "a260d446c5f377afacae67317fa23c4a6d4f7487e5e2ef72aee0ebd4fd5de286"), looks := false }, kinds := [], alts := [], laidByText := true, laidKinds := [.data], laidTests := true, laidLooks := .later }
def LexerJoinsCardSaid : Prop := Claim7.holds Tryd.pinned (.plain (OpenSpec.ofChange lexerJoinsSpec)) lexerJoinsCard

/-- THE TIED CARD OF 'majordomolaw11.LexerComments'. -/
def lexerCommentsCard : Claim7 := { stood := { row := lexerCommentsRow, standIns := [], harness := (true, "a260d446c5f377afacae67317fa23c4a6d4f7487e5e2ef72aee0ebd4fd5de286"), looks := false }, kinds := [], alts := [], laidByText := true, laidKinds := [.data], laidTests := true, laidLooks := .later }
def LexerCommentsCardSaid : Prop := Claim7.holds Tryd.pinned (.plain (OpenSpec.ofChange lexerCommentsSpec)) lexerCommentsCard

/-- THE TIED CARD OF 'majordomolaw11.LexerHalves'. -/
def lexerHalvesCard : Claim7 := { stood := { row := lexerHalvesRow, standIns := [], harness := (true, "a260d446c5f377afacae67317fa23c4a6d4f7487e5e2ef72aee0ebd4fd5de286"), looks := false }, kinds := [], alts := [], laidByText := true, laidKinds := [.data], laidTests := true, laidLooks := .later }
def LexerHalvesCardSaid : Prop := Claim7.holds Tryd.pinned (.plain (OpenSpec.ofChange lexerHalvesSpec)) lexerHalvesCard

/-- THE TIED CARD OF 'majordomolaw11.LexerCuts'. -/
def lexerCutsCard : Claim7 := { stood := { row := lexerCutsRow, standIns := [], harness := (true, "a260d446c5f377afacae67317fa23c4a6d4f7487e5e2ef72aee0ebd4fd5de286"), looks := false }, kinds := [], alts := [], laidByText := true, laidKinds := [.data], laidTests := true, laidLooks := .later }
def LexerCutsCardSaid : Prop := Claim7.holds Tryd.pinned (.plain (OpenSpec.ofChange lexerCutsSpec)) lexerCutsCard

/-- THE SECOND FORM's CARD OF 'majordomolaw11.LexerBetween'. -/
def lexerBetweenUptoCard : Claim7 := { stood := { row := lexerBetweenUptoRow, standIns := [], harness := (true, "a260d446c5f377afacae67317fa23c4a6d4f7487e5e2ef72aee0ebd4fd5de286"), looks := false }, kinds := [], alts := [], laidByText := true, laidKinds := [.data], laidTests := true, laidLooks := .later }
def LexerBetweenUptoCardSaid : Prop := Claim7.holds Tryd.pinned (.plain (OpenSpec.upto lexerBetweenSpec)) lexerBetweenUptoCard

/-- THE SECOND FORM's CARD OF 'majordomolaw11.LexerJoins'. -/
def lexerJoinsUptoCard : Claim7 := { stood := { row := lexerJoinsUptoRow, standIns := [], harness := (true, "a260d446c5f377afacae67317fa23c4a6d4f7487e5e2ef72aee0ebd4fd5de286"), looks := false }, kinds := [], alts := [], laidByText := true, laidKinds := [.data], laidTests := true, laidLooks := .later }
def LexerJoinsUptoCardSaid : Prop := Claim7.holds Tryd.pinned (.plain (OpenSpec.upto lexerJoinsSpec)) lexerJoinsUptoCard

/-- THE SECOND FORM's CARD OF 'majordomolaw11.LexerComments'. -/
def lexerCommentsUptoCard : Claim7 := { stood := { row := lexerCommentsUptoRow, standIns := [], harness := (true, "a260d446c5f377afacae67317fa23c4a6d4f7487e5e2ef72aee0ebd4fd5de286"), looks := false }, kinds := [], alts := [], laidByText := true, laidKinds := [.data], laidTests := true, laidLooks := .later }
def LexerCommentsUptoCardSaid : Prop := Claim7.holds Tryd.pinned (.plain (OpenSpec.upto lexerCommentsSpec)) lexerCommentsUptoCard

/-- THE SECOND FORM's CARD OF 'majordomolaw11.LexerHalves'. -/
def lexerHalvesUptoCard : Claim7 := { stood := { row := lexerHalvesUptoRow, standIns := [], harness := (true, "a260d446c5f377afacae67317fa23c4a6d4f7487e5e2ef72aee0ebd4fd5de286"), looks := false }, kinds := [], alts := [], laidByText := true, laidKinds := [.data], laidTests := true, laidLooks := .later }
def LexerHalvesUptoCardSaid : Prop := Claim7.holds Tryd.pinned (.plain (OpenSpec.upto lexerHalvesSpec)) lexerHalvesUptoCard

/-- THE SECOND FORM's CARD OF 'majordomolaw11.LexerCuts'. -/
def lexerCutsUptoCard : Claim7 := { stood := { row := lexerCutsUptoRow, standIns := [], harness := (true, "a260d446c5f377afacae67317fa23c4a6d4f7487e5e2ef72aee0ebd4fd5de286"), looks := false }, kinds := [], alts := [], laidByText := true, laidKinds := [.data], laidTests := true, laidLooks := .later }
def LexerCutsUptoCardSaid : Prop := Claim7.holds Tryd.pinned (.plain (OpenSpec.upto lexerCutsSpec)) lexerCutsUptoCard
end Rows
end Go.Proofs.YtjjhopcbipedaaaDoor
