/- GraphOrders: the law returns true for every input of bulk at most 1048576, and leaves its arguments as they were. -/
import Derived.Test.YtkcfjnacnabdaaaRows
import Derived.Test.YtkcfjnacnabdaaaGraArg
import Derived.Test.YtkcfjnacnabdaaaGraOrdersL
import Derived.WalkKit
import Derived.ProofKit
import Derived.OpenShut
import Derived.Carry
import Derived.JoinedCond
import Derived.JoinedRecord
namespace Go.Proofs.Ytkcfjnacnabdaaa.graphOrders
open Go.ChangeShapes Go.WideShapes Go.ChangeAt Go.RowKit
open Go.Proofs.Ytkcfjnacnabdaaa.PG Go.Proofs.Ytkcfjnacnabdaaa.GraArg Go.Proofs.YtkcfjnacnabdaaaW.PrintWords
set_option linter.unusedVariables false

theorem walk (W : World) (a0 : Int) (A1 : Option Addr) (c1 : Nat) (a1 : List S32) (g1 : Kd.C k32 W A1 a1.length a1) (e1 : a1.length ≤ c1) (w1 : a1.length ≤ 1048576) :
    Calls Try.prog 3 #[.int .i64 a0, .slice A1 a1.length c1] W fun e W' => e = .returned (.bool true) ∧ Below W.heap.size W W' := by
  obtain ⟨k, hk⟩ := Ev.rounds (ev_GraphOrders a0 a1 w1)
  exact majordomolaw08_GraphOrders.calls k a0 A1 c1 a1 true W g1 e1 hk

set_option maxRecDepth 100000 in
theorem contract (H : Type) (enc : TypeId × Value → H) (W : World) (base : Nat) (args : Array Value) (ds gs : List (DataW H)) (before : List MemPlace)
    (hval : ∀ (j : Nat) t v, Try.f3.params[j]? = some t → args[j]? = some v → Value.okWide Try.prog W .any base t v)
    (hW : DataW.Whole enc Try.prog Try.f3.params.toList Rows.graphOrdersSpec.vars false W args.toList ds gs before) (hk : Rows.uptoSmall H (ds ++ gs) = true) :
    Calls Try.prog 3 args W fun e W' => ∃ v, e = .returned v ∧ Rows.graphOrdersSpec.post enc Try.prog Try.f3 false true false false W args v W' := by
  have hW' := hW
  obtain ⟨p, q, hA0, hV, rfl, hfz, hnd⟩ := hW
  have hA : DataW.TrodAll enc Try.prog W 0 (fun _ => true) true Try.f3.params.toList args.toList ds p := hA0
  rw [Try.params3] at hA hval
  obtain ⟨v0, vs0, d0, ds0, p0, q0, hargs, rfl, rfl, h0, r0⟩ := trodAll_cons hA
  obtain ⟨v1, vs1, d1, ds1, p1, q1, rfl, rfl, rfl, h1, r1⟩ := trodAll_cons r0
  obtain ⟨rfl, rfl, rfl⟩ := trodAll_nil r1
  obtain rfl : args = #[v0, v1] := by cases args; simp_all
  obtain ⟨rfl, rfl⟩ := trodVars_none hV
  obtain ⟨a0, rfl, rfl, rfl, y0⟩ := open_int Try.underlying3 (hval 0 3 v0 rfl rfl) h0
  have k1 := h1
  have lt1 : ∀ x ∈ p1, x.block < W.heap.size := by obtain ⟨m, hm⟩ := k1; exact DataW.trod_lt m _ _ _ hm
  obtain ⟨A1, a1, c1, rfl, e1, g1, m1, u1⟩ := edges_open (hval 1 22 v1 rfl rfl) h1
  have w1 : a1.length ≤ 1048576 := Nat.le_trans u1 (by
    have z := hk
    simp [Rows.uptoSmall, Rows.uptoBulkAll] at z
    omega)
  clear hA0
  simp only [List.append_nil] at hW'
  refine (walk W a0 A1 c1 a1 g1 e1 w1).mono fun e W' ⟨he, bel⟩ => ?_
  subst he
  exact ⟨_, rfl, _, _, _, [], _, [], hW', trodAll_mk1 (shut_bool Try.underlying4 _), (trodAll_cons_mk (shut_int Try.underlying3 y0) (trodAll_cons_mk (Below.trod laidOut (by kernel_rfl) (of_decide_eq_true (by kernel_rfl)) k1 bel lt1) trodAll_mk0)), rfl, bel.frame _, fun h => by cases h⟩

set_option maxRecDepth 100000 in
theorem lifted (os : Os) (started : os.Started) (H : Type) (enc : TypeId × Value → H) (F : Stop.Interp) :
    ReturnsInHanded {} Try.checked os 3 .any ((Rows.OpenSpec.upto Rows.graphOrdersSpec).pre6 enc Try.prog Try.f3 Rows.graphOrdersUptoRow.domain false) (((Rows.OpenSpec.upto Rows.graphOrdersSpec).at F).post enc Try.prog Try.f3 false true false false) := by
  refine returnsInHanded_of_cond (C := Try.checked) (s := (Rows.OpenSpec.upto Rows.graphOrdersSpec)) (k := Rows.uptoSmall) rfl own started (by kernel_rfl) Try.func3
    (OpenSpec.witness (enc := enc) (C := Try.checked) (s := (Rows.OpenSpec.upto Rows.graphOrdersSpec)) (k := Rows.uptoSmall) rfl false ⟨#[], #[.int .i64 0, .slice none 0 0], []⟩ 8 (by kernel_rfl) (by kernel_rfl) (by kernel_rfl)
      (x := ([.lit (.int .i64 0), .nil], [], [])) (by kernel_rfl) rfl (by kernel_rfl)) ?_
  intro W base args ds gs before hval hW _ hk _
  exact contract H enc W base args ds gs before hval hW hk

theorem over : Rows.graphOrdersUptoRow.holds Try.pinned (Rows.OpenSpec.upto Rows.graphOrdersSpec) :=
  OpenClaim.holds_of_cond 3 Try.f3 rfl rfl rfl rfl rfl rfl rfl ⟨rfl, rfl, rfl, rfl, rfl⟩ rfl rfl rfl rfl rfl (by kernel_rfl) Try.func3 (by kernel_rfl)
    (of_decide_eq_true (by kernel_rfl)) (by unfold Func.isWrapper; first | (rw [if_pos (by decide +kernel)]; kernel_rfl) | (rw [if_neg (by decide +kernel)]; exact ⟨rfl, rfl⟩))
    (fun os started H enc _ F => lifted os started H enc F)

theorem proved : Rows.GraphOrdersUptoSaid := over
#print axioms proved
end Go.Proofs.Ytkcfjnacnabdaaa.graphOrders
