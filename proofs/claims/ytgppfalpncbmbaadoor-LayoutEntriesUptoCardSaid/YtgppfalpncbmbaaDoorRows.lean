/-
  NARROWER THAN 'FOR EVERY INPUT', by the rows' own cells (each row's printed sentence says how): LayoutParts: laid · LayoutPaths: laid · LayoutCosts: laid · LayoutNames: laid · LayoutUnlike: laid · LayoutEntries: laid · LayoutNodes: laid · LayoutTakes: laid.
  DERIVED. THE GIVEN ROWS OF THIS SEAT. 8 by the template 'for every input the law returns true; each argument reads behind the call as it read before'; 0 by the template 'total and deterministic' (their statements: YtgppfalpncbmbaaDoorTotals.lean).
  GIVEN WITH THE SEED: the statements are not yours to turn. If you find one false, say at which input.
  Laid BY PROGRAM, IN A SANDBOX (cutbox-rows.mjs): the forced cells as the released guide's own fill.sh prints them over the translation f7ee45d7a2620651… (all of the seat's roots in one cut). By AI agents, Wed Nov 11 2026. No macro, syntax, notation, axiom, sorry.
-/
import Derived.Test.YtgppfalpncbmbaaDoorChecked
import GoSem.PinnedTables
import GoSem.Claim
import GoSem.ClaimJoined
import GoSem.ClaimMapViews
import Derived.JoinedTies
import Derived.KernelRfl
namespace Go.Proofs.YtgppfalpncbmbaaDoor
/- THE CELL 'sum', in the pinned program and in every row, IS THE sha256 OF THE DUMP (.gsa) THAT YtgppfalpncbmbaaDoorProg.lean LOADS. Nothing in Lean hashes anything: it is a label: what it is worth is what the hold of that sum in a sandbox is worth. -/
noncomputable def Tryd.pinned : Pinned := { name := "ytgppfalpncbmbaadoor", sum := "f7ee45d7a2620651c1c4719066f558f7f5f94c790ec7fdeb61a603aabd2f86df", checked := Tryd.checked }
namespace Rows
def none {H : Type} : Left H := { results := [], args := [] }

/- WHAT THE LISTED PACKAGE-LEVEL VARIABLES READ AS WHEN THE CALL BEGINS. Each datum BY PROGRAM (the guide's laid-datum.mjs) off the statement by which the dump's own 'gosem.cut.vars' lays the variable. In a bare row this is a premise. The card (YtgppfalpncbmbaaDoorCards.lean) ties it to the program's text. -/
def laid_unicode_utf8_acceptRanges {H : Type} : DataW H := .agg [.agg [.lit (.int .u8 128), .lit (.int .u8 191)], .agg [.lit (.int .u8 160), .lit (.int .u8 191)], .agg [.lit (.int .u8 128), .lit (.int .u8 159)], .agg [.lit (.int .u8 144), .lit (.int .u8 191)], .agg [.lit (.int .u8 128), .lit (.int .u8 143)], .agg [.lit (.int .u8 0), .lit (.int .u8 0)], .agg [.lit (.int .u8 0), .lit (.int .u8 0)], .agg [.lit (.int .u8 0), .lit (.int .u8 0)], .agg [.lit (.int .u8 0), .lit (.int .u8 0)], .agg [.lit (.int .u8 0), .lit (.int .u8 0)], .agg [.lit (.int .u8 0), .lit (.int .u8 0)], .agg [.lit (.int .u8 0), .lit (.int .u8 0)], .agg [.lit (.int .u8 0), .lit (.int .u8 0)], .agg [.lit (.int .u8 0), .lit (.int .u8 0)], .agg [.lit (.int .u8 0), .lit (.int .u8 0)], .agg [.lit (.int .u8 0), .lit (.int .u8 0)]]
def laid_majordomo_layout_shapes {H : Type} : DataW H := .agg [.agg [.lit (.int .i64 0), .lit (.int .i64 0)], .agg [.lit (.int .i64 2432), .lit (.int .i64 64)], .agg [.lit (.int .i64 16), .lit (.int .i64 2)], .agg [.lit (.int .i64 120), .lit (.int .i64 64)]]
/-- One of Go's own tables, pinned by name: the form's constant. -/
def laid_unicode_utf8_first : DataW Unit := Go.Pinned.utf8First

/-- 'majordomolaw03.LayoutParts': WHATEVER THE INPUT: true; the input reads as it did. -/
def layoutPartsSpec : ChangeSpec := { name := "layoutParts", fn := fun _ => fun
  | [d1, d2, d3] => { results := [.lit (.bool true)], args := [d1, d2, d3] }
  | _ => none }
def layoutPartsRow : OpenClaim := { program := "ytgppfalpncbmbaadoor", sum := "f7ee45d7a2620651c1c4719066f558f7f5f94c790ec7fdeb61a603aabd2f86df", func := "majordomo/majordomolaw03.LayoutParts", spec := "layoutParts", inPlace := ["internal/bytealg.CountString", "internal/bytealg.IndexByteString", "internal/bytealg.IndexString"], unfollowed := true, recurses := true, named := ["unicode/utf8.first", "unicode/utf8.acceptRanges", "internal/bytealg.MaxLen", "majordomo/layout.shapes"], apart := false, laid := [("unicode/utf8.acceptRanges", laid_unicode_utf8_acceptRanges), ("majordomo/layout.shapes", laid_majordomo_layout_shapes), ("unicode/utf8.first", laid_unicode_utf8_first)] }
def LayoutPartsSaid : Prop := layoutPartsRow.holds Tryd.pinned (OpenSpec.ofChange layoutPartsSpec)

/-- ITS FALSE NEIGHBOUR: 'it returns false'. Refute it at one input. -/
def layoutPartsWrong : ChangeSpec := { name := "layoutParts", fn := fun _ => fun
  | [d1, d2, d3] => { results := [.lit (.bool false)], args := [d1, d2, d3] }
  | _ => none }
def LayoutPartsWrongFalsely : Prop := layoutPartsRow.holds Tryd.pinned (OpenSpec.ofChange layoutPartsWrong)

/-- 'majordomolaw03.LayoutPaths': WHATEVER THE INPUT: true; the input reads as it did. -/
def layoutPathsSpec : ChangeSpec := { name := "layoutPaths", fn := fun _ => fun
  | [d] => { results := [.lit (.bool true)], args := [d] }
  | _ => none }
def layoutPathsRow : OpenClaim := { program := "ytgppfalpncbmbaadoor", sum := "f7ee45d7a2620651c1c4719066f558f7f5f94c790ec7fdeb61a603aabd2f86df", func := "majordomo/majordomolaw03.LayoutPaths", spec := "layoutPaths", inPlace := ["internal/bytealg.CountString", "internal/bytealg.IndexByteString", "internal/bytealg.IndexString"], unfollowed := true, recurses := true, named := ["unicode/utf8.first", "unicode/utf8.acceptRanges", "internal/bytealg.MaxLen", "majordomo/layout.shapes"], apart := false, laid := [("unicode/utf8.acceptRanges", laid_unicode_utf8_acceptRanges), ("majordomo/layout.shapes", laid_majordomo_layout_shapes), ("unicode/utf8.first", laid_unicode_utf8_first)] }
def LayoutPathsSaid : Prop := layoutPathsRow.holds Tryd.pinned (OpenSpec.ofChange layoutPathsSpec)

/-- ITS FALSE NEIGHBOUR: 'it returns false'. Refute it at one input. -/
def layoutPathsWrong : ChangeSpec := { name := "layoutPaths", fn := fun _ => fun
  | [d] => { results := [.lit (.bool false)], args := [d] }
  | _ => none }
def LayoutPathsWrongFalsely : Prop := layoutPathsRow.holds Tryd.pinned (OpenSpec.ofChange layoutPathsWrong)

/-- 'majordomolaw03.LayoutCosts': WHATEVER THE INPUT: true; the input reads as it did. -/
def layoutCostsSpec : ChangeSpec := { name := "layoutCosts", fn := fun _ => fun
  | [d1, d2, d3] => { results := [.lit (.bool true)], args := [d1, d2, d3] }
  | _ => none }
def layoutCostsRow : OpenClaim := { program := "ytgppfalpncbmbaadoor", sum := "f7ee45d7a2620651c1c4719066f558f7f5f94c790ec7fdeb61a603aabd2f86df", func := "majordomo/majordomolaw03.LayoutCosts", spec := "layoutCosts", inPlace := ["internal/bytealg.CountString", "internal/bytealg.IndexByteString", "internal/bytealg.IndexString"], unfollowed := true, recurses := true, named := ["unicode/utf8.first", "unicode/utf8.acceptRanges", "internal/bytealg.MaxLen", "majordomo/layout.shapes"], apart := false, laid := [("unicode/utf8.acceptRanges", laid_unicode_utf8_acceptRanges), ("majordomo/layout.shapes", laid_majordomo_layout_shapes), ("unicode/utf8.first", laid_unicode_utf8_first)] }
def LayoutCostsSaid : Prop := layoutCostsRow.holds Tryd.pinned (OpenSpec.ofChange layoutCostsSpec)

/-- ITS FALSE NEIGHBOUR: 'it returns false'. Refute it at one input. -/
def layoutCostsWrong : ChangeSpec := { name := "layoutCosts", fn := fun _ => fun
  | [d1, d2, d3] => { results := [.lit (.bool false)], args := [d1, d2, d3] }
  | _ => none }
def LayoutCostsWrongFalsely : Prop := layoutCostsRow.holds Tryd.pinned (OpenSpec.ofChange layoutCostsWrong)

/-- 'majordomolaw03.LayoutNames': WHATEVER THE INPUT: true; the input reads as it did. -/
def layoutNamesSpec : ChangeSpec := { name := "layoutNames", fn := fun _ => fun
  | [d] => { results := [.lit (.bool true)], args := [d] }
  | _ => none }
def layoutNamesRow : OpenClaim := { program := "ytgppfalpncbmbaadoor", sum := "f7ee45d7a2620651c1c4719066f558f7f5f94c790ec7fdeb61a603aabd2f86df", func := "majordomo/majordomolaw03.LayoutNames", spec := "layoutNames", inPlace := ["internal/bytealg.CountString", "internal/bytealg.IndexByteString", "internal/bytealg.IndexString"], unfollowed := true, recurses := true, named := ["unicode/utf8.first", "unicode/utf8.acceptRanges", "internal/bytealg.MaxLen", "majordomo/layout.shapes"], apart := false, laid := [("unicode/utf8.acceptRanges", laid_unicode_utf8_acceptRanges), ("majordomo/layout.shapes", laid_majordomo_layout_shapes), ("unicode/utf8.first", laid_unicode_utf8_first)] }
def LayoutNamesSaid : Prop := layoutNamesRow.holds Tryd.pinned (OpenSpec.ofChange layoutNamesSpec)

/-- ITS FALSE NEIGHBOUR: 'it returns false'. Refute it at one input. -/
def layoutNamesWrong : ChangeSpec := { name := "layoutNames", fn := fun _ => fun
  | [d] => { results := [.lit (.bool false)], args := [d] }
  | _ => none }
def LayoutNamesWrongFalsely : Prop := layoutNamesRow.holds Tryd.pinned (OpenSpec.ofChange layoutNamesWrong)

/-- 'majordomolaw03.LayoutUnlike': WHATEVER THE INPUT: true; the input reads as it did. -/
def layoutUnlikeSpec : ChangeSpec := { name := "layoutUnlike", fn := fun _ => fun
  | [d1, d2, d3] => { results := [.lit (.bool true)], args := [d1, d2, d3] }
  | _ => none }
def layoutUnlikeRow : OpenClaim := { program := "ytgppfalpncbmbaadoor", sum := "f7ee45d7a2620651c1c4719066f558f7f5f94c790ec7fdeb61a603aabd2f86df", func := "majordomo/majordomolaw03.LayoutUnlike", spec := "layoutUnlike", inPlace := ["internal/bytealg.CountString", "internal/bytealg.IndexByteString", "internal/bytealg.IndexString"], unfollowed := true, recurses := true, named := ["unicode/utf8.first", "unicode/utf8.acceptRanges", "internal/bytealg.MaxLen", "majordomo/layout.shapes"], apart := false, laid := [("unicode/utf8.acceptRanges", laid_unicode_utf8_acceptRanges), ("majordomo/layout.shapes", laid_majordomo_layout_shapes), ("unicode/utf8.first", laid_unicode_utf8_first)] }
def LayoutUnlikeSaid : Prop := layoutUnlikeRow.holds Tryd.pinned (OpenSpec.ofChange layoutUnlikeSpec)

/-- ITS FALSE NEIGHBOUR: 'it returns false'. Refute it at one input. -/
def layoutUnlikeWrong : ChangeSpec := { name := "layoutUnlike", fn := fun _ => fun
  | [d1, d2, d3] => { results := [.lit (.bool false)], args := [d1, d2, d3] }
  | _ => none }
def LayoutUnlikeWrongFalsely : Prop := layoutUnlikeRow.holds Tryd.pinned (OpenSpec.ofChange layoutUnlikeWrong)

/-- 'majordomolaw03.LayoutEntries': WHATEVER THE INPUT: true; the input reads as it did. -/
def layoutEntriesSpec : ChangeSpec := { name := "layoutEntries", fn := fun _ => fun
  | [d] => { results := [.lit (.bool true)], args := [d] }
  | _ => none }
def layoutEntriesRow : OpenClaim := { program := "ytgppfalpncbmbaadoor", sum := "f7ee45d7a2620651c1c4719066f558f7f5f94c790ec7fdeb61a603aabd2f86df", func := "majordomo/majordomolaw03.LayoutEntries", spec := "layoutEntries", inPlace := ["internal/bytealg.CountString", "internal/bytealg.IndexByteString", "internal/bytealg.IndexString"], unfollowed := true, recurses := true, named := ["unicode/utf8.first", "unicode/utf8.acceptRanges", "internal/bytealg.MaxLen", "majordomo/layout.shapes"], apart := false, laid := [("unicode/utf8.acceptRanges", laid_unicode_utf8_acceptRanges), ("majordomo/layout.shapes", laid_majordomo_layout_shapes), ("unicode/utf8.first", laid_unicode_utf8_first)] }
def LayoutEntriesSaid : Prop := layoutEntriesRow.holds Tryd.pinned (OpenSpec.ofChange layoutEntriesSpec)

/-- ITS FALSE NEIGHBOUR: 'it returns false'. Refute it at one input. -/
def layoutEntriesWrong : ChangeSpec := { name := "layoutEntries", fn := fun _ => fun
  | [d] => { results := [.lit (.bool false)], args := [d] }
  | _ => none }
def LayoutEntriesWrongFalsely : Prop := layoutEntriesRow.holds Tryd.pinned (OpenSpec.ofChange layoutEntriesWrong)

/-- 'majordomolaw03.LayoutNodes': WHATEVER THE INPUT: true; the input reads as it did. -/
def layoutNodesSpec : ChangeSpec := { name := "layoutNodes", fn := fun _ => fun
  | [d] => { results := [.lit (.bool true)], args := [d] }
  | _ => none }
def layoutNodesRow : OpenClaim := { program := "ytgppfalpncbmbaadoor", sum := "f7ee45d7a2620651c1c4719066f558f7f5f94c790ec7fdeb61a603aabd2f86df", func := "majordomo/majordomolaw03.LayoutNodes", spec := "layoutNodes", inPlace := ["internal/bytealg.CountString", "internal/bytealg.IndexByteString", "internal/bytealg.IndexString"], unfollowed := true, recurses := true, named := ["unicode/utf8.first", "unicode/utf8.acceptRanges", "internal/bytealg.MaxLen", "majordomo/layout.shapes"], apart := false, laid := [("unicode/utf8.acceptRanges", laid_unicode_utf8_acceptRanges), ("majordomo/layout.shapes", laid_majordomo_layout_shapes), ("unicode/utf8.first", laid_unicode_utf8_first)] }
def LayoutNodesSaid : Prop := layoutNodesRow.holds Tryd.pinned (OpenSpec.ofChange layoutNodesSpec)

/-- ITS FALSE NEIGHBOUR: 'it returns false'. Refute it at one input. -/
def layoutNodesWrong : ChangeSpec := { name := "layoutNodes", fn := fun _ => fun
  | [d] => { results := [.lit (.bool false)], args := [d] }
  | _ => none }
def LayoutNodesWrongFalsely : Prop := layoutNodesRow.holds Tryd.pinned (OpenSpec.ofChange layoutNodesWrong)

/-- 'majordomolaw03.LayoutTakes': WHATEVER THE INPUT: true; the input reads as it did. -/
def layoutTakesSpec : ChangeSpec := { name := "layoutTakes", fn := fun _ => fun
  | [d1, d2, d3] => { results := [.lit (.bool true)], args := [d1, d2, d3] }
  | _ => none }
def layoutTakesRow : OpenClaim := { program := "ytgppfalpncbmbaadoor", sum := "f7ee45d7a2620651c1c4719066f558f7f5f94c790ec7fdeb61a603aabd2f86df", func := "majordomo/majordomolaw03.LayoutTakes", spec := "layoutTakes", inPlace := ["internal/bytealg.CountString", "internal/bytealg.IndexByteString", "internal/bytealg.IndexString"], unfollowed := true, recurses := true, named := ["unicode/utf8.first", "unicode/utf8.acceptRanges", "internal/bytealg.MaxLen", "majordomo/layout.shapes"], apart := false, laid := [("unicode/utf8.acceptRanges", laid_unicode_utf8_acceptRanges), ("majordomo/layout.shapes", laid_majordomo_layout_shapes), ("unicode/utf8.first", laid_unicode_utf8_first)] }
def LayoutTakesSaid : Prop := layoutTakesRow.holds Tryd.pinned (OpenSpec.ofChange layoutTakesSpec)

/-- ITS FALSE NEIGHBOUR: 'it returns false'. Refute it at one input. -/
def layoutTakesWrong : ChangeSpec := { name := "layoutTakes", fn := fun _ => fun
  | [d1, d2, d3] => { results := [.lit (.bool false)], args := [d1, d2, d3] }
  | _ => none }
def LayoutTakesWrongFalsely : Prop := layoutTakesRow.holds Tryd.pinned (OpenSpec.ofChange layoutTakesWrong)

/- THE SECOND FORM. 'bulk': how many values and letters a reading holds, each counted each time it is reached (what is shared counts as often as it is met; a slice's spare places count too). A statement '..UptoSaid' is the law's where the arguments, and the package variables that the reading takes, are together of bulk at most 1048576: NARROWER than '..Said'. Prove '..Said' where nothing that the law and all that it calls make is longer than what came in: it says more and counts as full. Else prove '..UptoSaid'. A law counts once. -/
mutual
def uptoBulk {H : Type} : DataW H → Nat
  | .lit (.string bytes) => bytes.length + 1
  | .lit _ => 1
  | .nil => 1
  | .ptr d => uptoBulk d + 1
  | .slice elems spare => uptoBulkAll elems + uptoBulkAll spare + 1
  | .agg parts => uptoBulkAll parts + 1
  | .iface _ d => uptoBulk d + 1
  | .map entries => uptoBulkEntries entries + 1
  | .held _ => 1
def uptoBulkAll {H : Type} : List (DataW H) → Nat
  | [] => 0
  | d :: r => uptoBulk d + uptoBulkAll r
def uptoBulkEntries {H : Type} : List (Lit × DataW H) → Nat
  | [] => 0
  | x :: r => uptoBulkEntry x + uptoBulkEntries r
def uptoBulkEntry {H : Type} : Lit × DataW H → Nat
  | (.string bytes, d) => bytes.length + uptoBulk d + 1
  | (_, d) => uptoBulk d + 1
 end
def uptoSmall : (H : Type) → List (DataW H) → Bool := fun _ ds => decide (uptoBulkAll ds ≤ 1048576)
def OpenSpec.upto (s : _root_.Go.ChangeSpec) : _root_.Go.OpenSpec := { _root_.Go.OpenSpec.ofChange s with cond := some uptoSmall }

/-- 'majordomolaw03.LayoutParts', WHERE WHAT IT READS IS OF BULK AT MOST 1048576: true; the input reads as it did. -/
def layoutPartsUptoRow : OpenClaim := { program := "ytgppfalpncbmbaadoor", sum := "f7ee45d7a2620651c1c4719066f558f7f5f94c790ec7fdeb61a603aabd2f86df", func := "majordomo/majordomolaw03.LayoutParts", spec := "layoutParts", inPlace := ["internal/bytealg.CountString", "internal/bytealg.IndexByteString", "internal/bytealg.IndexString"], unfollowed := true, recurses := true, named := ["unicode/utf8.first", "unicode/utf8.acceptRanges", "internal/bytealg.MaxLen", "majordomo/layout.shapes"], apart := false, laid := [("unicode/utf8.acceptRanges", laid_unicode_utf8_acceptRanges), ("majordomo/layout.shapes", laid_majordomo_layout_shapes), ("unicode/utf8.first", laid_unicode_utf8_first)], narrowed := true }
def LayoutPartsUptoSaid : Prop := layoutPartsUptoRow.holds Tryd.pinned (OpenSpec.upto layoutPartsSpec)

/-- 'majordomolaw03.LayoutPaths', WHERE WHAT IT READS IS OF BULK AT MOST 1048576: true; the input reads as it did. -/
def layoutPathsUptoRow : OpenClaim := { program := "ytgppfalpncbmbaadoor", sum := "f7ee45d7a2620651c1c4719066f558f7f5f94c790ec7fdeb61a603aabd2f86df", func := "majordomo/majordomolaw03.LayoutPaths", spec := "layoutPaths", inPlace := ["internal/bytealg.CountString", "internal/bytealg.IndexByteString", "internal/bytealg.IndexString"], unfollowed := true, recurses := true, named := ["unicode/utf8.first", "unicode/utf8.acceptRanges", "internal/bytealg.MaxLen", "majordomo/layout.shapes"], apart := false, laid := [("unicode/utf8.acceptRanges", laid_unicode_utf8_acceptRanges), ("majordomo/layout.shapes", laid_majordomo_layout_shapes), ("unicode/utf8.first", laid_unicode_utf8_first)], narrowed := true }
def LayoutPathsUptoSaid : Prop := layoutPathsUptoRow.holds Tryd.pinned (OpenSpec.upto layoutPathsSpec)

/-- 'majordomolaw03.LayoutCosts', WHERE WHAT IT READS IS OF BULK AT MOST 1048576: true; the input reads as it did. -/
def layoutCostsUptoRow : OpenClaim := { program := "ytgppfalpncbmbaadoor", sum := "f7ee45d7a2620651c1c4719066f558f7f5f94c790ec7fdeb61a603aabd2f86df", func := "majordomo/majordomolaw03.LayoutCosts", spec := "layoutCosts", inPlace := ["internal/bytealg.CountString", "internal/bytealg.IndexByteString", "internal/bytealg.IndexString"], unfollowed := true, recurses := true, named := ["unicode/utf8.first", "unicode/utf8.acceptRanges", "internal/bytealg.MaxLen", "majordomo/layout.shapes"], apart := false, laid := [("unicode/utf8.acceptRanges", laid_unicode_utf8_acceptRanges), ("majordomo/layout.shapes", laid_majordomo_layout_shapes), ("unicode/utf8.first", laid_unicode_utf8_first)], narrowed := true }
def LayoutCostsUptoSaid : Prop := layoutCostsUptoRow.holds Tryd.pinned (OpenSpec.upto layoutCostsSpec)

/-- 'majordomolaw03.LayoutNames', WHERE WHAT IT READS IS OF BULK AT MOST 1048576: true; the input reads as it did. -/
def layoutNamesUptoRow : OpenClaim := { program := "ytgppfalpncbmbaadoor", sum := "f7ee45d7a2620651c1c4719066f558f7f5f94c790ec7fdeb61a603aabd2f86df", func := "majordomo/majordomolaw03.LayoutNames", spec := "layoutNames", inPlace := ["internal/bytealg.CountString", "internal/bytealg.IndexByteString", "internal/bytealg.IndexString"], unfollowed := true, recurses := true, named := ["unicode/utf8.first", "unicode/utf8.acceptRanges", "internal/bytealg.MaxLen", "majordomo/layout.shapes"], apart := false, laid := [("unicode/utf8.acceptRanges", laid_unicode_utf8_acceptRanges), ("majordomo/layout.shapes", laid_majordomo_layout_shapes), ("unicode/utf8.first", laid_unicode_utf8_first)], narrowed := true }
def LayoutNamesUptoSaid : Prop := layoutNamesUptoRow.holds Tryd.pinned (OpenSpec.upto layoutNamesSpec)

/-- 'majordomolaw03.LayoutUnlike', WHERE WHAT IT READS IS OF BULK AT MOST 1048576: true; the input reads as it did. -/
def layoutUnlikeUptoRow : OpenClaim := { program := "ytgppfalpncbmbaadoor", sum := "f7ee45d7a2620651c1c4719066f558f7f5f94c790ec7fdeb61a603aabd2f86df", func := "majordomo/majordomolaw03.LayoutUnlike", spec := "layoutUnlike", inPlace := ["internal/bytealg.CountString", "internal/bytealg.IndexByteString", "internal/bytealg.IndexString"], unfollowed := true, recurses := true, named := ["unicode/utf8.first", "unicode/utf8.acceptRanges", "internal/bytealg.MaxLen", "majordomo/layout.shapes"], apart := false, laid := [("unicode/utf8.acceptRanges", laid_unicode_utf8_acceptRanges), ("majordomo/layout.shapes", laid_majordomo_layout_shapes), ("unicode/utf8.first", laid_unicode_utf8_first)], narrowed := true }
def LayoutUnlikeUptoSaid : Prop := layoutUnlikeUptoRow.holds Tryd.pinned (OpenSpec.upto layoutUnlikeSpec)

/-- 'majordomolaw03.LayoutEntries', WHERE WHAT IT READS IS OF BULK AT MOST 1048576: true; the input reads as it did. -/
def layoutEntriesUptoRow : OpenClaim := { program := "ytgppfalpncbmbaadoor", sum := "f7ee45d7a2620651c1c4719066f558f7f5f94c790ec7fdeb61a603aabd2f86df", func := "majordomo/majordomolaw03.LayoutEntries", spec := "layoutEntries", inPlace := ["internal/bytealg.CountString", "internal/bytealg.IndexByteString", "internal/bytealg.IndexString"], unfollowed := true, recurses := true, named := ["unicode/utf8.first", "unicode/utf8.acceptRanges", "internal/bytealg.MaxLen", "majordomo/layout.shapes"], apart := false, laid := [("unicode/utf8.acceptRanges", laid_unicode_utf8_acceptRanges), ("majordomo/layout.shapes", laid_majordomo_layout_shapes), ("unicode/utf8.first", laid_unicode_utf8_first)], narrowed := true }
def LayoutEntriesUptoSaid : Prop := layoutEntriesUptoRow.holds Tryd.pinned (OpenSpec.upto layoutEntriesSpec)

/-- 'majordomolaw03.LayoutNodes', WHERE WHAT IT READS IS OF BULK AT MOST 1048576: true; the input reads as it did. -/
def layoutNodesUptoRow : OpenClaim := { program := "ytgppfalpncbmbaadoor", sum := "f7ee45d7a2620651c1c4719066f558f7f5f94c790ec7fdeb61a603aabd2f86df", func := "majordomo/majordomolaw03.LayoutNodes", spec := "layoutNodes", inPlace := ["internal/bytealg.CountString", "internal/bytealg.IndexByteString", "internal/bytealg.IndexString"], unfollowed := true, recurses := true, named := ["unicode/utf8.first", "unicode/utf8.acceptRanges", "internal/bytealg.MaxLen", "majordomo/layout.shapes"], apart := false, laid := [("unicode/utf8.acceptRanges", laid_unicode_utf8_acceptRanges), ("majordomo/layout.shapes", laid_majordomo_layout_shapes), ("unicode/utf8.first", laid_unicode_utf8_first)], narrowed := true }
def LayoutNodesUptoSaid : Prop := layoutNodesUptoRow.holds Tryd.pinned (OpenSpec.upto layoutNodesSpec)

/-- 'majordomolaw03.LayoutTakes', WHERE WHAT IT READS IS OF BULK AT MOST 1048576: true; the input reads as it did. -/
def layoutTakesUptoRow : OpenClaim := { program := "ytgppfalpncbmbaadoor", sum := "f7ee45d7a2620651c1c4719066f558f7f5f94c790ec7fdeb61a603aabd2f86df", func := "majordomo/majordomolaw03.LayoutTakes", spec := "layoutTakes", inPlace := ["internal/bytealg.CountString", "internal/bytealg.IndexByteString", "internal/bytealg.IndexString"], unfollowed := true, recurses := true, named := ["unicode/utf8.first", "unicode/utf8.acceptRanges", "internal/bytealg.MaxLen", "majordomo/layout.shapes"], apart := false, laid := [("unicode/utf8.acceptRanges", laid_unicode_utf8_acceptRanges), ("majordomo/layout.shapes", laid_majordomo_layout_shapes), ("unicode/utf8.first", laid_unicode_utf8_first)], narrowed := true }
def LayoutTakesUptoSaid : Prop := layoutTakesUptoRow.holds Tryd.pinned (OpenSpec.upto layoutTakesSpec)

end Rows
end Go.Proofs.YtgppfalpncbmbaaDoor
