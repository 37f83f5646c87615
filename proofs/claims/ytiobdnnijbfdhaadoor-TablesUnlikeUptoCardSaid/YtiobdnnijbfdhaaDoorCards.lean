/-
  DERIVED. GIVEN WITH THE SEED: THE CARDS: each row of YtiobdnnijbfdhaaDoorRows.lean that lists a variable, with what it lists TIED to the program's text (the seventh form; the later family's looks); each row that meets fmt, with fmt's text TOLD by the authors' own Lean function (tested against real Go, not proved from fmt's source: count such statements apart). THE CARD IS WHAT COUNTS. Prove the row's statement (the work); the ties are given (YtiobdnnijbfdhaaDoorTie.lean); close each card by the builder's one call (the guide's Derived/Test/ToyasCard.lean, 'card_holds'). Laid BY PROGRAM, IN A SANDBOX (cutbox-door.mjs). By AI agents, Wed Nov 11 2026. No macro, syntax, notation, axiom, sorry.
-/
import Derived.Test.YtiobdnnijbfdhaaDoorRows
import GoSem.ClaimSeven
namespace Go.Proofs.YtiobdnnijbfdhaaDoor
namespace Rows

/-- THE TIED CARD OF 'majordomolaw05.TablesPrint'. -/
def tablesPrintCard : Claim7 := { stood := { row := tablesPrintRow, standIns := [], harness := (true, "c5b91e7e29f0482cbc08f63bd434ddbdbcbb2d3d51964225f927b301eab38082"), looks := false }, kinds := [], alts := [], laidByText := true, laidKinds := [.data, .pinned], laidTests := true, laidLooks := .later }
def TablesPrintCardSaid : Prop := Claim7.holds Tryd.pinned (.plain (OpenSpec.ofChange tablesPrintSpec)) tablesPrintCard

/-- THE TIED CARD OF 'majordomolaw05.TablesParse'. -/
def tablesParseCard : Claim7 := { stood := { row := tablesParseRow, standIns := [], harness := (true, "c5b91e7e29f0482cbc08f63bd434ddbdbcbb2d3d51964225f927b301eab38082"), looks := false }, kinds := [], alts := [], laidByText := true, laidKinds := [.data, .pinned], laidTests := true, laidLooks := .later }
def TablesParseCardSaid : Prop := Claim7.holds Tryd.pinned (.plain (OpenSpec.ofChange tablesParseSpec)) tablesParseCard

/-- THE TIED CARD OF 'majordomolaw05.TablesUnlike'. -/
def tablesUnlikeCard : Claim7 := { stood := { row := tablesUnlikeRow, standIns := [], harness := (true, "c5b91e7e29f0482cbc08f63bd434ddbdbcbb2d3d51964225f927b301eab38082"), looks := false }, kinds := [], alts := [], laidByText := true, laidKinds := [.data, .pinned], laidTests := true, laidLooks := .later }
def TablesUnlikeCardSaid : Prop := Claim7.holds Tryd.pinned (.plain (OpenSpec.ofChange tablesUnlikeSpec)) tablesUnlikeCard

/-- THE TIED CARD OF 'majordomolaw05.TablesOrder'. -/
def tablesOrderCard : Claim7 := { stood := { row := tablesOrderRow, standIns := [], harness := (true, "c5b91e7e29f0482cbc08f63bd434ddbdbcbb2d3d51964225f927b301eab38082"), looks := false }, kinds := [], alts := [], laidByText := true, laidKinds := [.data, .pinned], laidTests := true, laidLooks := .later }
def TablesOrderCardSaid : Prop := Claim7.holds Tryd.pinned (.plain (OpenSpec.ofChange tablesOrderSpec)) tablesOrderCard

/-- THE TIED CARD OF 'majordomolaw05.TablesRows'. -/
def tablesRowsCard : Claim7 := { stood := { row := tablesRowsRow, standIns := [], harness := (true, "c5b91e7e29f0482cbc08f63bd434ddbdbcbb2d3d51964225f927b301eab38082"), looks := false }, kinds := [], alts := [], laidByText := true, laidKinds := [.data, .pinned], laidTests := true, laidLooks := .later }
def TablesRowsCardSaid : Prop := Claim7.holds Tryd.pinned (.plain (OpenSpec.ofChange tablesRowsSpec)) tablesRowsCard

/-- THE SECOND FORM's CARD OF 'majordomolaw05.TablesPrint'. -/
def tablesPrintUptoCard : Claim7 := { stood := { row := tablesPrintUptoRow, standIns := [], harness := (true, "c5b91e7e29f0482cbc08f63bd434ddbdbcbb2d3d51964225f927b301eab38082"), looks := false }, kinds := [], alts := [], laidByText := true, laidKinds := [.data, .pinned], laidTests := true, laidLooks := .later }
def TablesPrintUptoCardSaid : Prop := Claim7.holds Tryd.pinned (.plain (OpenSpec.upto tablesPrintSpec)) tablesPrintUptoCard

/-- THE SECOND FORM's CARD OF 'majordomolaw05.TablesParse'. -/
def tablesParseUptoCard : Claim7 := { stood := { row := tablesParseUptoRow, standIns := [], harness := (true, "c5b91e7e29f0482cbc08f63bd434ddbdbcbb2d3d51964225f927b301eab38082"), looks := false }, kinds := [], alts := [], laidByText := true, laidKinds := [.data, .pinned], laidTests := true, laidLooks := .later }
def TablesParseUptoCardSaid : Prop := Claim7.holds Tryd.pinned (.plain (OpenSpec.upto tablesParseSpec)) tablesParseUptoCard

/-- THE SECOND FORM's CARD OF 'majordomolaw05.TablesUnlike'. -/
def tablesUnlikeUptoCard : Claim7 := { stood := { row := tablesUnlikeUptoRow, standIns := [], harness := (true, "c5b91e7e29f0482cbc08f63bd434ddbdbcbb2d3d51964225f927b301eab38082"), looks := false }, kinds := [], alts := [], laidByText := true, laidKinds := [.data, .pinned], laidTests := true, laidLooks := .later }
def TablesUnlikeUptoCardSaid : Prop := Claim7.holds Tryd.pinned (.plain (OpenSpec.upto tablesUnlikeSpec)) tablesUnlikeUptoCard

/-- THE SECOND FORM's CARD OF 'majordomolaw05.TablesOrder'. -/
def tablesOrderUptoCard : Claim7 := { stood := { row := tablesOrderUptoRow, standIns := [], harness := (true, "c5b91e7e29f0482cbc08f63bd434ddbdbcbb2d3d51964225f927b301eab38082"), looks := false }, kinds := [], alts := [], laidByText := true, laidKinds := [.data, .pinned], laidTests := true, laidLooks := .later }
def TablesOrderUptoCardSaid : Prop := Claim7.holds Tryd.pinned (.plain (OpenSpec.upto tablesOrderSpec)) tablesOrderUptoCard

/-- THE SECOND FORM's CARD OF 'majordomolaw05.TablesRows'. -/
def tablesRowsUptoCard : Claim7 := { stood := { row := tablesRowsUptoRow, standIns := [], harness := (true, "c5b91e7e29f0482cbc08f63bd434ddbdbcbb2d3d51964225f927b301eab38082"), looks := false }, kinds := [], alts := [], laidByText := true, laidKinds := [.data, .pinned], laidTests := true, laidLooks := .later }
def TablesRowsUptoCardSaid : Prop := Claim7.holds Tryd.pinned (.plain (OpenSpec.upto tablesRowsSpec)) tablesRowsUptoCard
end Rows
end Go.Proofs.YtiobdnnijbfdhaaDoor
