/-
  No cell of these rows narrows 'for every input' (looked for: loops, veiled, ifaces, maps, wideKeys, modest, calm, conditions, laid).
  DERIVED. THE GIVEN ROWS OF THIS SEAT. 6 by the template 'for every input the law returns true; each argument reads behind the call as it read before'; 0 by the template 'total and deterministic' (their statements: YtpmlmjbhgonegaaTotals.lean).
  GIVEN WITH THE SEED: the statements are not yours to turn. If you find one false, say at which input.
  Laid BY PROGRAM, IN A SANDBOX (cutbox-rows.mjs): the forced cells as the released guide's own fill.sh prints them over the translation b416c103fbf2ac3d… (all of the seat's roots in one cut). By AI agents, Wed Nov 11 2026. No macro, syntax, notation, axiom, sorry.
-/
import Derived.Test.YtpmlmjbhgonegaaChecked
import GoSem.Claim
import GoSem.ClaimJoined
import GoSem.ClaimMapViews
import Derived.JoinedTies
import Derived.KernelRfl
namespace Go.Proofs.Ytpmlmjbhgonegaa
/- THE CELL 'sum', in the pinned program and in every row, IS THE sha256 OF THE DUMP (.gsa) THAT YtpmlmjbhgonegaaProg.lean LOADS. Nothing in Lean hashes anything: it is a label: what it is worth is what the hold of that sum in a sandbox is worth. -/
noncomputable def Try.pinned : Pinned := { name := "ytpmlmjbhgonegaa", sum := "b416c103fbf2ac3dc21d8d67e349c34898f2c7cb8e44a243819aa3db2a4d295c", checked := Try.checked }
namespace Rows
def none {H : Type} : Left H := { results := [], args := [] }

/-- 'majordomolaw02.JournalArgs': WHATEVER THE INPUT: true; the input reads as it did. -/
def journalArgsSpec : ChangeSpec := { name := "journalArgs", fn := fun _ => fun
  | [d1, d2] => { results := [.lit (.bool true)], args := [d1, d2] }
  | _ => none }
def journalArgsRow : OpenClaim := { program := "ytpmlmjbhgonegaa", sum := "b416c103fbf2ac3dc21d8d67e349c34898f2c7cb8e44a243819aa3db2a4d295c", func := "majordomo/majordomolaw02.JournalArgs", spec := "journalArgs", apart := false }
def JournalArgsSaid : Prop := journalArgsRow.holds Try.pinned (OpenSpec.ofChange journalArgsSpec)

/-- ITS FALSE NEIGHBOUR: 'it returns false'. Refute it at one input. -/
def journalArgsWrong : ChangeSpec := { name := "journalArgs", fn := fun _ => fun
  | [d1, d2] => { results := [.lit (.bool false)], args := [d1, d2] }
  | _ => none }
def JournalArgsWrongFalsely : Prop := journalArgsRow.holds Try.pinned (OpenSpec.ofChange journalArgsWrong)

/-- 'majordomolaw02.JournalOrder': WHATEVER THE INPUT: true; the input reads as it did. -/
def journalOrderSpec : ChangeSpec := { name := "journalOrder", fn := fun _ => fun
  | [d] => { results := [.lit (.bool true)], args := [d] }
  | _ => none }
def journalOrderRow : OpenClaim := { program := "ytpmlmjbhgonegaa", sum := "b416c103fbf2ac3dc21d8d67e349c34898f2c7cb8e44a243819aa3db2a4d295c", func := "majordomo/majordomolaw02.JournalOrder", spec := "journalOrder", apart := false }
def JournalOrderSaid : Prop := journalOrderRow.holds Try.pinned (OpenSpec.ofChange journalOrderSpec)

/-- ITS FALSE NEIGHBOUR: 'it returns false'. Refute it at one input. -/
def journalOrderWrong : ChangeSpec := { name := "journalOrder", fn := fun _ => fun
  | [d] => { results := [.lit (.bool false)], args := [d] }
  | _ => none }
def JournalOrderWrongFalsely : Prop := journalOrderRow.holds Try.pinned (OpenSpec.ofChange journalOrderWrong)

/-- 'majordomolaw02.JournalOpens': WHATEVER THE INPUT: true; the input reads as it did. -/
def journalOpensSpec : ChangeSpec := { name := "journalOpens", fn := fun _ => fun
  | [d1, d2] => { results := [.lit (.bool true)], args := [d1, d2] }
  | _ => none }
def journalOpensRow : OpenClaim := { program := "ytpmlmjbhgonegaa", sum := "b416c103fbf2ac3dc21d8d67e349c34898f2c7cb8e44a243819aa3db2a4d295c", func := "majordomo/majordomolaw02.JournalOpens", spec := "journalOpens", apart := false }
def JournalOpensSaid : Prop := journalOpensRow.holds Try.pinned (OpenSpec.ofChange journalOpensSpec)

/-- ITS FALSE NEIGHBOUR: 'it returns false'. Refute it at one input. -/
def journalOpensWrong : ChangeSpec := { name := "journalOpens", fn := fun _ => fun
  | [d1, d2] => { results := [.lit (.bool false)], args := [d1, d2] }
  | _ => none }
def JournalOpensWrongFalsely : Prop := journalOpensRow.holds Try.pinned (OpenSpec.ofChange journalOpensWrong)

/-- 'majordomolaw02.JournalApart': WHATEVER THE INPUT: true; the input reads as it did. -/
def journalApartSpec : ChangeSpec := { name := "journalApart", fn := fun _ => fun
  | [d] => { results := [.lit (.bool true)], args := [d] }
  | _ => none }
def journalApartRow : OpenClaim := { program := "ytpmlmjbhgonegaa", sum := "b416c103fbf2ac3dc21d8d67e349c34898f2c7cb8e44a243819aa3db2a4d295c", func := "majordomo/majordomolaw02.JournalApart", spec := "journalApart", apart := false }
def JournalApartSaid : Prop := journalApartRow.holds Try.pinned (OpenSpec.ofChange journalApartSpec)

/-- ITS FALSE NEIGHBOUR: 'it returns false'. Refute it at one input. -/
def journalApartWrong : ChangeSpec := { name := "journalApart", fn := fun _ => fun
  | [d] => { results := [.lit (.bool false)], args := [d] }
  | _ => none }
def JournalApartWrongFalsely : Prop := journalApartRow.holds Try.pinned (OpenSpec.ofChange journalApartWrong)

/-- 'majordomolaw02.JournalCrashes': WHATEVER THE INPUT: true; the input reads as it did. -/
def journalCrashesSpec : ChangeSpec := { name := "journalCrashes", fn := fun _ => fun
  | [d1, d2] => { results := [.lit (.bool true)], args := [d1, d2] }
  | _ => none }
def journalCrashesRow : OpenClaim := { program := "ytpmlmjbhgonegaa", sum := "b416c103fbf2ac3dc21d8d67e349c34898f2c7cb8e44a243819aa3db2a4d295c", func := "majordomo/majordomolaw02.JournalCrashes", spec := "journalCrashes", apart := false }
def JournalCrashesSaid : Prop := journalCrashesRow.holds Try.pinned (OpenSpec.ofChange journalCrashesSpec)

/-- ITS FALSE NEIGHBOUR: 'it returns false'. Refute it at one input. -/
def journalCrashesWrong : ChangeSpec := { name := "journalCrashes", fn := fun _ => fun
  | [d1, d2] => { results := [.lit (.bool false)], args := [d1, d2] }
  | _ => none }
def JournalCrashesWrongFalsely : Prop := journalCrashesRow.holds Try.pinned (OpenSpec.ofChange journalCrashesWrong)

/-- 'majordomolaw02.JournalSteps': WHATEVER THE INPUT: true; the input reads as it did. -/
def journalStepsSpec : ChangeSpec := { name := "journalSteps", fn := fun _ => fun
  | [d1, d2] => { results := [.lit (.bool true)], args := [d1, d2] }
  | _ => none }
def journalStepsRow : OpenClaim := { program := "ytpmlmjbhgonegaa", sum := "b416c103fbf2ac3dc21d8d67e349c34898f2c7cb8e44a243819aa3db2a4d295c", func := "majordomo/majordomolaw02.JournalSteps", spec := "journalSteps", inPlace := ["maps.clone"], apart := false }
def JournalStepsSaid : Prop := journalStepsRow.holds Try.pinned (OpenSpec.ofChange journalStepsSpec)

/-- ITS FALSE NEIGHBOUR: 'it returns false'. Refute it at one input. -/
def journalStepsWrong : ChangeSpec := { name := "journalSteps", fn := fun _ => fun
  | [d1, d2] => { results := [.lit (.bool false)], args := [d1, d2] }
  | _ => none }
def JournalStepsWrongFalsely : Prop := journalStepsRow.holds Try.pinned (OpenSpec.ofChange journalStepsWrong)

/- THE SECOND FORM. 'bulk': how many values and letters a reading holds, each counted each time it is reached (what is shared counts as often as it is met; a slice's spare places count too). A statement '..UptoSaid' is the law's where the arguments, and the package variables that the reading takes, are together of bulk at most 1048576: NARROWER than '..Said'. Prove '..Said' where nothing that the law and all that it calls make is longer than what came in: it says more and counts as full. Else prove '..UptoSaid'. A law counts once. -/
mutual
def uptoBulk {H : Type} : DataW H → Nat
  | .lit (.string bytes) => bytes.length + 1
  | .lit _ => 1
  | .nil => 1
  | .ptr d => uptoBulk d + 1
  | .slice elems spare => uptoBulkAll elems + uptoBulkAll spare + 1
  | .agg parts => uptoBulkAll parts + 1
  | .iface _ d => uptoBulk d + 1
  | .map entries => uptoBulkEntries entries + 1
  | .held _ => 1
def uptoBulkAll {H : Type} : List (DataW H) → Nat
  | [] => 0
  | d :: r => uptoBulk d + uptoBulkAll r
def uptoBulkEntries {H : Type} : List (Lit × DataW H) → Nat
  | [] => 0
  | x :: r => uptoBulkEntry x + uptoBulkEntries r
def uptoBulkEntry {H : Type} : Lit × DataW H → Nat
  | (.string bytes, d) => bytes.length + uptoBulk d + 1
  | (_, d) => uptoBulk d + 1
 end
def uptoSmall : (H : Type) → List (DataW H) → Bool := fun _ ds => decide (uptoBulkAll ds ≤ 1048576)
def OpenSpec.upto (s : _root_.Go.ChangeSpec) : _root_.Go.OpenSpec := { _root_.Go.OpenSpec.ofChange s with cond := some uptoSmall }

/-- 'majordomolaw02.JournalArgs', WHERE WHAT IT READS IS OF BULK AT MOST 1048576: true; the input reads as it did. -/
def journalArgsUptoRow : OpenClaim := { program := "ytpmlmjbhgonegaa", sum := "b416c103fbf2ac3dc21d8d67e349c34898f2c7cb8e44a243819aa3db2a4d295c", func := "majordomo/majordomolaw02.JournalArgs", spec := "journalArgs", apart := false, narrowed := true }
def JournalArgsUptoSaid : Prop := journalArgsUptoRow.holds Try.pinned (OpenSpec.upto journalArgsSpec)

/-- 'majordomolaw02.JournalOrder', WHERE WHAT IT READS IS OF BULK AT MOST 1048576: true; the input reads as it did. -/
def journalOrderUptoRow : OpenClaim := { program := "ytpmlmjbhgonegaa", sum := "b416c103fbf2ac3dc21d8d67e349c34898f2c7cb8e44a243819aa3db2a4d295c", func := "majordomo/majordomolaw02.JournalOrder", spec := "journalOrder", apart := false, narrowed := true }
def JournalOrderUptoSaid : Prop := journalOrderUptoRow.holds Try.pinned (OpenSpec.upto journalOrderSpec)

/-- 'majordomolaw02.JournalOpens', WHERE WHAT IT READS IS OF BULK AT MOST 1048576: true; the input reads as it did. -/
def journalOpensUptoRow : OpenClaim := { program := "ytpmlmjbhgonegaa", sum := "b416c103fbf2ac3dc21d8d67e349c34898f2c7cb8e44a243819aa3db2a4d295c", func := "majordomo/majordomolaw02.JournalOpens", spec := "journalOpens", apart := false, narrowed := true }
def JournalOpensUptoSaid : Prop := journalOpensUptoRow.holds Try.pinned (OpenSpec.upto journalOpensSpec)

/-- 'majordomolaw02.JournalApart', WHERE WHAT IT READS IS OF BULK AT MOST 1048576: true; the input reads as it did. -/
def journalApartUptoRow : OpenClaim := { program := "ytpmlmjbhgonegaa", sum := "b416c103fbf2ac3dc21d8d67e349c34898f2c7cb8e44a243819aa3db2a4d295c", func := "majordomo/majordomolaw02.JournalApart", spec := "journalApart", apart := false, narrowed := true }
def JournalApartUptoSaid : Prop := journalApartUptoRow.holds Try.pinned (OpenSpec.upto journalApartSpec)

/-- 'majordomolaw02.JournalCrashes', WHERE WHAT IT READS IS OF BULK AT MOST 1048576: true; the input reads as it did. -/
def journalCrashesUptoRow : OpenClaim := { program := "ytpmlmjbhgonegaa", sum := "b416c103fbf2ac3dc21d8d67e349c34898f2c7cb8e44a243819aa3db2a4d295c", func := "majordomo/majordomolaw02.JournalCrashes", spec := "journalCrashes", apart := false, narrowed := true }
def JournalCrashesUptoSaid : Prop := journalCrashesUptoRow.holds Try.pinned (OpenSpec.upto journalCrashesSpec)

/-- 'majordomolaw02.JournalSteps', WHERE WHAT IT READS IS OF BULK AT MOST 1048576: true; the input reads as it did. -/
def journalStepsUptoRow : OpenClaim := { program := "ytpmlmjbhgonegaa", sum := "b416c103fbf2ac3dc21d8d67e349c34898f2c7cb8e44a243819aa3db2a4d295c", func := "majordomo/majordomolaw02.JournalSteps", spec := "journalSteps", inPlace := ["maps.clone"], apart := false, narrowed := true }
def JournalStepsUptoSaid : Prop := journalStepsUptoRow.holds Try.pinned (OpenSpec.upto journalStepsSpec)

end Rows
end Go.Proofs.Ytpmlmjbhgonegaa
