/-
  NARROWER THAN 'FOR EVERY INPUT', by the rows' own cells (each row's printed sentence says how): TablesPrint: laid · TablesParse: laid · TablesUnlike: laid · TablesOrder: laid · TablesRows: laid.
  DERIVED. THE GIVEN ROWS OF THIS SEAT. 5 by the template 'for every input the law returns true; each argument reads behind the call as it read before'; 0 by the template 'total and deterministic' (their statements: YtiobdnnijbfdhaaDoorTotals.lean).
  GIVEN WITH THE SEED: the statements are not yours to turn. If you find one false, say at which input.
  Laid BY PROGRAM, IN A SANDBOX (cutbox-rows.mjs): the forced cells as the released guide's own fill.sh prints them over the translation f3a28155fd304815… (all of the seat's roots in one cut). By AI agents, Wed Nov 11 2026. No macro, syntax, notation, axiom, sorry.
-/
import Derived.Test.YtiobdnnijbfdhaaDoorChecked
import GoSem.PinnedTables
import GoSem.Claim
import GoSem.ClaimJoined
import GoSem.ClaimMapViews
import Derived.JoinedTies
import Derived.KernelRfl
namespace Go.Proofs.YtiobdnnijbfdhaaDoor
/- THE CELL 'sum', in the pinned program and in every row, IS THE sha256 OF THE DUMP (.gsa) THAT YtiobdnnijbfdhaaDoorProg.lean LOADS. Nothing in Lean hashes anything: it is a label: what it is worth is what the hold of that sum in a sandbox is worth. -/
noncomputable def Tryd.pinned : Pinned := { name := "ytiobdnnijbfdhaadoor", sum := "f3a28155fd304815b071ac78d8afa3c4789189f08122a098a88a7cf1279c6f43", checked := Tryd.checked }
namespace Rows
def none {H : Type} : Left H := { results := [], args := [] }

/- WHAT THE LISTED PACKAGE-LEVEL VARIABLES READ AS WHEN THE CALL BEGINS. Each datum BY PROGRAM (the guide's laid-datum.mjs) off the statement by which the dump's own 'gosem.cut.vars' lays the variable. In a bare row this is a premise. The card (YtiobdnnijbfdhaaDoorCards.lean) ties it to the program's text. -/
def laid_unicode_utf8_acceptRanges {H : Type} : DataW H := .agg [.agg [.lit (.int .u8 128), .lit (.int .u8 191)], .agg [.lit (.int .u8 160), .lit (.int .u8 191)], .agg [.lit (.int .u8 128), .lit (.int .u8 159)], .agg [.lit (.int .u8 144), .lit (.int .u8 191)], .agg [.lit (.int .u8 128), .lit (.int .u8 143)], .agg [.lit (.int .u8 0), .lit (.int .u8 0)], .agg [.lit (.int .u8 0), .lit (.int .u8 0)], .agg [.lit (.int .u8 0), .lit (.int .u8 0)], .agg [.lit (.int .u8 0), .lit (.int .u8 0)], .agg [.lit (.int .u8 0), .lit (.int .u8 0)], .agg [.lit (.int .u8 0), .lit (.int .u8 0)], .agg [.lit (.int .u8 0), .lit (.int .u8 0)], .agg [.lit (.int .u8 0), .lit (.int .u8 0)], .agg [.lit (.int .u8 0), .lit (.int .u8 0)], .agg [.lit (.int .u8 0), .lit (.int .u8 0)], .agg [.lit (.int .u8 0), .lit (.int .u8 0)]]
/-- One of Go's own tables, pinned by name: the form's constant. -/
def laid_unicode_utf8_first : DataW Unit := Go.Pinned.utf8First

/-- 'majordomolaw05.TablesPrint': WHATEVER THE INPUT: true; the input reads as it did. -/
def tablesPrintSpec : ChangeSpec := { name := "tablesPrint", fn := fun _ => fun
  | [d1, d2] => { results := [.lit (.bool true)], args := [d1, d2] }
  | _ => none }
def tablesPrintRow : OpenClaim := { program := "ytiobdnnijbfdhaadoor", sum := "f3a28155fd304815b071ac78d8afa3c4789189f08122a098a88a7cf1279c6f43", func := "majordomo/majordomolaw05.TablesPrint", spec := "tablesPrint", inPlace := ["internal/bytealg.IndexByteString", "internal/bytealg.IndexString", "internal/abi.NoEscape", "internal/bytealg.MakeNoZero", "internal/bytealg.CountString"], unfollowed := true, recurses := true, named := ["unicode/utf8.first", "unicode/utf8.acceptRanges", "internal/bytealg.MaxLen"], apart := false, laid := [("unicode/utf8.acceptRanges", laid_unicode_utf8_acceptRanges), ("unicode/utf8.first", laid_unicode_utf8_first)] }
def TablesPrintSaid : Prop := tablesPrintRow.holds Tryd.pinned (OpenSpec.ofChange tablesPrintSpec)

/-- ITS FALSE NEIGHBOUR: 'it returns false'. Refute it at one input. -/
def tablesPrintWrong : ChangeSpec := { name := "tablesPrint", fn := fun _ => fun
  | [d1, d2] => { results := [.lit (.bool false)], args := [d1, d2] }
  | _ => none }
def TablesPrintWrongFalsely : Prop := tablesPrintRow.holds Tryd.pinned (OpenSpec.ofChange tablesPrintWrong)

/-- 'majordomolaw05.TablesParse': WHATEVER THE INPUT: true; the input reads as it did. -/
def tablesParseSpec : ChangeSpec := { name := "tablesParse", fn := fun _ => fun
  | [d1, d2] => { results := [.lit (.bool true)], args := [d1, d2] }
  | _ => none }
def tablesParseRow : OpenClaim := { program := "ytiobdnnijbfdhaadoor", sum := "f3a28155fd304815b071ac78d8afa3c4789189f08122a098a88a7cf1279c6f43", func := "majordomo/majordomolaw05.TablesParse", spec := "tablesParse", inPlace := ["internal/bytealg.IndexByteString", "internal/bytealg.IndexString", "internal/abi.NoEscape", "internal/bytealg.MakeNoZero", "internal/bytealg.CountString"], unfollowed := true, recurses := true, named := ["unicode/utf8.first", "unicode/utf8.acceptRanges", "internal/bytealg.MaxLen"], apart := false, laid := [("unicode/utf8.acceptRanges", laid_unicode_utf8_acceptRanges), ("unicode/utf8.first", laid_unicode_utf8_first)] }
def TablesParseSaid : Prop := tablesParseRow.holds Tryd.pinned (OpenSpec.ofChange tablesParseSpec)

/-- ITS FALSE NEIGHBOUR: 'it returns false'. Refute it at one input. -/
def tablesParseWrong : ChangeSpec := { name := "tablesParse", fn := fun _ => fun
  | [d1, d2] => { results := [.lit (.bool false)], args := [d1, d2] }
  | _ => none }
def TablesParseWrongFalsely : Prop := tablesParseRow.holds Tryd.pinned (OpenSpec.ofChange tablesParseWrong)

/-- 'majordomolaw05.TablesUnlike': WHATEVER THE INPUT: true; the input reads as it did. -/
def tablesUnlikeSpec : ChangeSpec := { name := "tablesUnlike", fn := fun _ => fun
  | [d1, d2, d3] => { results := [.lit (.bool true)], args := [d1, d2, d3] }
  | _ => none }
def tablesUnlikeRow : OpenClaim := { program := "ytiobdnnijbfdhaadoor", sum := "f3a28155fd304815b071ac78d8afa3c4789189f08122a098a88a7cf1279c6f43", func := "majordomo/majordomolaw05.TablesUnlike", spec := "tablesUnlike", inPlace := ["internal/bytealg.IndexByteString", "internal/bytealg.IndexString", "internal/abi.NoEscape", "internal/bytealg.MakeNoZero", "internal/bytealg.CountString"], unfollowed := true, recurses := true, named := ["unicode/utf8.first", "unicode/utf8.acceptRanges", "internal/bytealg.MaxLen"], apart := false, laid := [("unicode/utf8.acceptRanges", laid_unicode_utf8_acceptRanges), ("unicode/utf8.first", laid_unicode_utf8_first)] }
def TablesUnlikeSaid : Prop := tablesUnlikeRow.holds Tryd.pinned (OpenSpec.ofChange tablesUnlikeSpec)

/-- ITS FALSE NEIGHBOUR: 'it returns false'. Refute it at one input. -/
def tablesUnlikeWrong : ChangeSpec := { name := "tablesUnlike", fn := fun _ => fun
  | [d1, d2, d3] => { results := [.lit (.bool false)], args := [d1, d2, d3] }
  | _ => none }
def TablesUnlikeWrongFalsely : Prop := tablesUnlikeRow.holds Tryd.pinned (OpenSpec.ofChange tablesUnlikeWrong)

/-- 'majordomolaw05.TablesOrder': WHATEVER THE INPUT: true; the input reads as it did. -/
def tablesOrderSpec : ChangeSpec := { name := "tablesOrder", fn := fun _ => fun
  | [d1, d2, d3] => { results := [.lit (.bool true)], args := [d1, d2, d3] }
  | _ => none }
def tablesOrderRow : OpenClaim := { program := "ytiobdnnijbfdhaadoor", sum := "f3a28155fd304815b071ac78d8afa3c4789189f08122a098a88a7cf1279c6f43", func := "majordomo/majordomolaw05.TablesOrder", spec := "tablesOrder", inPlace := ["internal/bytealg.IndexByteString", "internal/bytealg.IndexString", "internal/abi.NoEscape", "internal/bytealg.MakeNoZero", "internal/bytealg.CountString", "slices.overlaps[majordomo/api.Row]"], unfollowed := true, recurses := true, named := ["unicode/utf8.first", "unicode/utf8.acceptRanges", "internal/bytealg.MaxLen"], apart := false, laid := [("unicode/utf8.acceptRanges", laid_unicode_utf8_acceptRanges), ("unicode/utf8.first", laid_unicode_utf8_first)] }
def TablesOrderSaid : Prop := tablesOrderRow.holds Tryd.pinned (OpenSpec.ofChange tablesOrderSpec)

/-- ITS FALSE NEIGHBOUR: 'it returns false'. Refute it at one input. -/
def tablesOrderWrong : ChangeSpec := { name := "tablesOrder", fn := fun _ => fun
  | [d1, d2, d3] => { results := [.lit (.bool false)], args := [d1, d2, d3] }
  | _ => none }
def TablesOrderWrongFalsely : Prop := tablesOrderRow.holds Tryd.pinned (OpenSpec.ofChange tablesOrderWrong)

/-- 'majordomolaw05.TablesRows': WHATEVER THE INPUT: true; the input reads as it did. -/
def tablesRowsSpec : ChangeSpec := { name := "tablesRows", fn := fun _ => fun
  | [d1, d2] => { results := [.lit (.bool true)], args := [d1, d2] }
  | _ => none }
def tablesRowsRow : OpenClaim := { program := "ytiobdnnijbfdhaadoor", sum := "f3a28155fd304815b071ac78d8afa3c4789189f08122a098a88a7cf1279c6f43", func := "majordomo/majordomolaw05.TablesRows", spec := "tablesRows", inPlace := ["internal/bytealg.IndexByteString", "internal/bytealg.IndexString", "internal/abi.NoEscape", "internal/bytealg.MakeNoZero", "internal/bytealg.CountString", "slices.overlaps[majordomo/api.Row]"], unfollowed := true, recurses := true, named := ["unicode/utf8.first", "unicode/utf8.acceptRanges", "internal/bytealg.MaxLen"], apart := false, laid := [("unicode/utf8.acceptRanges", laid_unicode_utf8_acceptRanges), ("unicode/utf8.first", laid_unicode_utf8_first)] }
def TablesRowsSaid : Prop := tablesRowsRow.holds Tryd.pinned (OpenSpec.ofChange tablesRowsSpec)

/-- ITS FALSE NEIGHBOUR: 'it returns false'. Refute it at one input. -/
def tablesRowsWrong : ChangeSpec := { name := "tablesRows", fn := fun _ => fun
  | [d1, d2] => { results := [.lit (.bool false)], args := [d1, d2] }
  | _ => none }
def TablesRowsWrongFalsely : Prop := tablesRowsRow.holds Tryd.pinned (OpenSpec.ofChange tablesRowsWrong)

/- THE SECOND FORM. 'bulk': how many values and letters a reading holds, each counted each time it is reached (what is shared counts as often as it is met; a slice's spare places count too). A statement '..UptoSaid' is the law's where the arguments, and the package variables that the reading takes, are together of bulk at most 1048576: NARROWER than '..Said'. Prove '..Said' where nothing that the law and all that it calls make is longer than what came in: it says more and counts as full. Else prove '..UptoSaid'. A law counts once. -/
mutual
def uptoBulk {H : Type} : DataW H → Nat
  | .lit (.string bytes) => bytes.length + 1
  | .lit _ => 1
  | .nil => 1
  | .ptr d => uptoBulk d + 1
  | .slice elems spare => uptoBulkAll elems + uptoBulkAll spare + 1
  | .agg parts => uptoBulkAll parts + 1
  | .iface _ d => uptoBulk d + 1
  | .map entries => uptoBulkEntries entries + 1
  | .held _ => 1
def uptoBulkAll {H : Type} : List (DataW H) → Nat
  | [] => 0
  | d :: r => uptoBulk d + uptoBulkAll r
def uptoBulkEntries {H : Type} : List (Lit × DataW H) → Nat
  | [] => 0
  | x :: r => uptoBulkEntry x + uptoBulkEntries r
def uptoBulkEntry {H : Type} : Lit × DataW H → Nat
  | (.string bytes, d) => bytes.length + uptoBulk d + 1
  | (_, d) => uptoBulk d + 1
 end
def uptoSmall : (H : Type) → List (DataW H) → Bool := fun _ ds => decide (uptoBulkAll ds ≤ 1048576)
def OpenSpec.upto (s : _root_.Go.ChangeSpec) : _root_.Go.OpenSpec := { _root_.Go.OpenSpec.ofChange s with cond := some uptoSmall }

/-- 'majordomolaw05.TablesPrint', WHERE WHAT IT READS IS OF BULK AT MOST 1048576: true; the input reads as it did. -/
def tablesPrintUptoRow : OpenClaim := { program := "ytiobdnnijbfdhaadoor", sum := "f3a28155fd304815b071ac78d8afa3c4789189f08122a098a88a7cf1279c6f43", func := "majordomo/majordomolaw05.TablesPrint", spec := "tablesPrint", inPlace := ["internal/bytealg.IndexByteString", "internal/bytealg.IndexString", "internal/abi.NoEscape", "internal/bytealg.MakeNoZero", "internal/bytealg.CountString"], unfollowed := true, recurses := true, named := ["unicode/utf8.first", "unicode/utf8.acceptRanges", "internal/bytealg.MaxLen"], apart := false, laid := [("unicode/utf8.acceptRanges", laid_unicode_utf8_acceptRanges), ("unicode/utf8.first", laid_unicode_utf8_first)], narrowed := true }
def TablesPrintUptoSaid : Prop := tablesPrintUptoRow.holds Tryd.pinned (OpenSpec.upto tablesPrintSpec)

/-- 'majordomolaw05.TablesParse', WHERE WHAT IT READS IS OF BULK AT MOST 1048576: true; the input reads as it did. -/
def tablesParseUptoRow : OpenClaim := { program := "ytiobdnnijbfdhaadoor", sum := "f3a28155fd304815b071ac78d8afa3c4789189f08122a098a88a7cf1279c6f43", func := "majordomo/majordomolaw05.TablesParse", spec := "tablesParse", inPlace := ["internal/bytealg.IndexByteString", "internal/bytealg.IndexString", "internal/abi.NoEscape", "internal/bytealg.MakeNoZero", "internal/bytealg.CountString"], unfollowed := true, recurses := true, named := ["unicode/utf8.first", "unicode/utf8.acceptRanges", "internal/bytealg.MaxLen"], apart := false, laid := [("unicode/utf8.acceptRanges", laid_unicode_utf8_acceptRanges), ("unicode/utf8.first", laid_unicode_utf8_first)], narrowed := true }
def TablesParseUptoSaid : Prop := tablesParseUptoRow.holds Tryd.pinned (OpenSpec.upto tablesParseSpec)

/-- 'majordomolaw05.TablesUnlike', WHERE WHAT IT READS IS OF BULK AT MOST 1048576: true; the input reads as it did. -/
def tablesUnlikeUptoRow : OpenClaim := { program := "ytiobdnnijbfdhaadoor", sum := "f3a28155fd304815b071ac78d8afa3c4789189f08122a098a88a7cf1279c6f43", func := "majordomo/majordomolaw05.TablesUnlike", spec := "tablesUnlike", inPlace := ["internal/bytealg.IndexByteString", "internal/bytealg.IndexString", "internal/abi.NoEscape", "internal/bytealg.MakeNoZero", "internal/bytealg.CountString"], unfollowed := true, recurses := true, named := ["unicode/utf8.first", "unicode/utf8.acceptRanges", "internal/bytealg.MaxLen"], apart := false, laid := [("unicode/utf8.acceptRanges", laid_unicode_utf8_acceptRanges), ("unicode/utf8.first", laid_unicode_utf8_first)], narrowed := true }
def TablesUnlikeUptoSaid : Prop := tablesUnlikeUptoRow.holds Tryd.pinned (OpenSpec.upto tablesUnlikeSpec)

/-- 'majordomolaw05.TablesOrder', WHERE WHAT IT READS IS OF BULK AT MOST 1048576: true; the input reads as it did. -/
def tablesOrderUptoRow : OpenClaim := { program := "ytiobdnnijbfdhaadoor", sum := "f3a28155fd304815b071ac78d8afa3c4789189f08122a098a88a7cf1279c6f43", func := "majordomo/majordomolaw05.TablesOrder", spec := "tablesOrder", inPlace := ["internal/bytealg.IndexByteString", "internal/bytealg.IndexString", "internal/abi.NoEscape", "internal/bytealg.MakeNoZero", "internal/bytealg.CountString", "slices.overlaps[majordomo/api.Row]"], unfollowed := true, recurses := true, named := ["unicode/utf8.first", "unicode/utf8.acceptRanges", "internal/bytealg.MaxLen"], apart := false, laid := [("unicode/utf8.acceptRanges", laid_unicode_utf8_acceptRanges), ("unicode/utf8.first", laid_unicode_utf8_first)], narrowed := true }
def TablesOrderUptoSaid : Prop := tablesOrderUptoRow.holds Tryd.pinned (OpenSpec.upto tablesOrderSpec)

/-- 'majordomolaw05.TablesRows', WHERE WHAT IT READS IS OF BULK AT MOST 1048576: true; the input reads as it did. -/
def tablesRowsUptoRow : OpenClaim := { program := "ytiobdnnijbfdhaadoor", sum := "f3a28155fd304815b071ac78d8afa3c4789189f08122a098a88a7cf1279c6f43", func := "majordomo/majordomolaw05.TablesRows", spec := "tablesRows", inPlace := ["internal/bytealg.IndexByteString", "internal/bytealg.IndexString", "internal/abi.NoEscape", "internal/bytealg.MakeNoZero", "internal/bytealg.CountString", "slices.overlaps[majordomo/api.Row]"], unfollowed := true, recurses := true, named := ["unicode/utf8.first", "unicode/utf8.acceptRanges", "internal/bytealg.MaxLen"], apart := false, laid := [("unicode/utf8.acceptRanges", laid_unicode_utf8_acceptRanges), ("unicode/utf8.first", laid_unicode_utf8_first)], narrowed := true }
def TablesRowsUptoSaid : Prop := tablesRowsUptoRow.holds Tryd.pinned (OpenSpec.upto tablesRowsSpec)

end Rows
end Go.Proofs.YtiobdnnijbfdhaaDoor
