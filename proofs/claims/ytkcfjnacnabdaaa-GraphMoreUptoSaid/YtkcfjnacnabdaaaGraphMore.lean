/- GraphMore: the law returns true for every input of bulk at most 1048576, and leaves its arguments as they were. -/
import Derived.Test.YtkcfjnacnabdaaaRows
import Derived.Test.YtkcfjnacnabdaaaGraArg
import Derived.Test.YtkcfjnacnabdaaaGraMoreL
import Derived.WalkKit
import Derived.ProofKit
import Derived.OpenShut
import Derived.Carry
import Derived.JoinedCond
import Derived.JoinedRecord
namespace Go.Proofs.Ytkcfjnacnabdaaa.graphMore
open Go.ChangeShapes Go.WideShapes Go.ChangeAt Go.RowKit
open Go.Proofs.Ytkcfjnacnabdaaa.PG Go.Proofs.Ytkcfjnacnabdaaa.GraArg Go.Proofs.YtkcfjnacnabdaaaW.PrintWords
set_option linter.unusedVariables false

theorem walk (W : World) (a0 : Int) (A1 : Option Addr) (c1 : Nat) (a1 : List S32) (a2 b2 : Int) (g1 : Kd.C k32 W A1 a1.length a1) (e1 : a1.length ≤ c1) (w1 : a1.length ≤ 1048576) (l2 : -9223372036854775808 ≤ a2) (u2 : a2 ≤ 9223372036854775807) (m2 : -9223372036854775808 ≤ b2) (n2 : b2 ≤ 9223372036854775807) :
    Calls Try.prog 6 #[.int .i64 a0, .slice A1 a1.length c1, .agg #[.int .i64 a2, .int .i64 b2]] W fun e W' => e = .returned (.bool true) ∧ Below W.heap.size W W' := by
  obtain ⟨k, hk⟩ := Ev.rounds (ev_GraphMore a0 a1 a2 b2 w1 l2 u2 m2 n2)
  exact majordomolaw08_GraphMore.calls k a0 A1 c1 a1 a2 b2 true W g1 e1 hk

set_option maxRecDepth 100000 in
theorem contract (H : Type) (enc : TypeId × Value → H) (W : World) (base : Nat) (args : Array Value) (ds gs : List (DataW H)) (before : List MemPlace)
    (hval : ∀ (j : Nat) t v, Try.f6.params[j]? = some t → args[j]? = some v → Value.okWide Try.prog W .any base t v)
    (hW : DataW.Whole enc Try.prog Try.f6.params.toList Rows.graphMoreSpec.vars false W args.toList ds gs before) (hk : Rows.uptoSmall H (ds ++ gs) = true) :
    Calls Try.prog 6 args W fun e W' => ∃ v, e = .returned v ∧ Rows.graphMoreSpec.post enc Try.prog Try.f6 false true false false W args v W' := by
  have hW' := hW
  obtain ⟨p, q, hA0, hV, rfl, hfz, hnd⟩ := hW
  have hA : DataW.TrodAll enc Try.prog W 0 (fun _ => true) true Try.f6.params.toList args.toList ds p := hA0
  rw [Try.params6] at hA hval
  obtain ⟨v0, vs0, d0, ds0, p0, q0, hargs, rfl, rfl, h0, r0⟩ := trodAll_cons hA
  obtain ⟨v1, vs1, d1, ds1, p1, q1, rfl, rfl, rfl, h1, r1⟩ := trodAll_cons r0
  obtain ⟨v2, vs2, d2, ds2, p2, q2, rfl, rfl, rfl, h2, r2⟩ := trodAll_cons r1
  obtain ⟨rfl, rfl, rfl⟩ := trodAll_nil r2
  obtain rfl : args = #[v0, v1, v2] := by cases args; simp_all
  obtain ⟨rfl, rfl⟩ := trodVars_none hV
  obtain ⟨a0, rfl, rfl, rfl, y0⟩ := open_int Try.underlying3 (hval 0 3 v0 rfl rfl) h0
  have k1 := h1
  have lt1 : ∀ x ∈ p1, x.block < W.heap.size := by obtain ⟨m, hm⟩ := k1; exact DataW.trod_lt m _ _ _ hm
  obtain ⟨A1, a1, c1, rfl, e1, g1, m1, u1⟩ := edges_open (hval 1 22 v1 rfl rfl) h1
  have w1 : a1.length ≤ 1048576 := Nat.le_trans u1 (by
    have z := hk
    simp [Rows.uptoSmall, Rows.uptoBulkAll] at z
    omega)
  have k2 := h2
  have lt2 : ∀ x ∈ p2, x.block < W.heap.size := by obtain ⟨m, hm⟩ := k2; exact DataW.trod_lt m _ _ _ hm
  obtain ⟨a2, b2, rfl, y2, x2⟩ := pair_open (hval 2 37 v2 rfl rfl) h2
  obtain ⟨l2, s2⟩ : -9223372036854775808 ≤ a2 ∧ a2 ≤ 9223372036854775807 := by simpa [Lit.wf, IntKind.min, IntKind.max, IntKind.signed, IntKind.bits] using y2
  obtain ⟨m2, n2⟩ : -9223372036854775808 ≤ b2 ∧ b2 ≤ 9223372036854775807 := by simpa [Lit.wf, IntKind.min, IntKind.max, IntKind.signed, IntKind.bits] using x2
  clear hA0
  simp only [List.append_nil] at hW'
  refine (walk W a0 A1 c1 a1 a2 b2 g1 e1 w1 l2 s2 m2 n2).mono fun e W' ⟨he, bel⟩ => ?_
  subst he
  exact ⟨_, rfl, _, _, _, [], _, [], hW', trodAll_mk1 (shut_bool Try.underlying4 _), (trodAll_cons_mk (shut_int Try.underlying3 y0) (trodAll_cons_mk (Below.trod laidOut (by kernel_rfl) (of_decide_eq_true (by kernel_rfl)) k1 bel lt1) (trodAll_cons_mk (Below.trod laidOut (by kernel_rfl) (of_decide_eq_true (by kernel_rfl)) k2 bel lt2) trodAll_mk0))), rfl, bel.frame _, fun h => by cases h⟩

set_option maxRecDepth 100000 in
theorem lifted (os : Os) (started : os.Started) (H : Type) (enc : TypeId × Value → H) (F : Stop.Interp) :
    ReturnsInHanded {} Try.checked os 6 .any ((Rows.OpenSpec.upto Rows.graphMoreSpec).pre6 enc Try.prog Try.f6 Rows.graphMoreUptoRow.domain false) (((Rows.OpenSpec.upto Rows.graphMoreSpec).at F).post enc Try.prog Try.f6 false true false false) := by
  refine returnsInHanded_of_cond (C := Try.checked) (s := (Rows.OpenSpec.upto Rows.graphMoreSpec)) (k := Rows.uptoSmall) rfl own started (by kernel_rfl) Try.func6
    (OpenSpec.witness (enc := enc) (C := Try.checked) (s := (Rows.OpenSpec.upto Rows.graphMoreSpec)) (k := Rows.uptoSmall) rfl false ⟨#[], #[.int .i64 0, .slice none 0 0, .agg #[.int .i64 0, .int .i64 0]], []⟩ 8 (by kernel_rfl) (by kernel_rfl) (by kernel_rfl)
      (x := ([.lit (.int .i64 0), .nil, .agg [.lit (.int .i64 0), .lit (.int .i64 0)]], [], [])) (by kernel_rfl) rfl (by kernel_rfl)) ?_
  intro W base args ds gs before hval hW _ hk _
  exact contract H enc W base args ds gs before hval hW hk

theorem over : Rows.graphMoreUptoRow.holds Try.pinned (Rows.OpenSpec.upto Rows.graphMoreSpec) :=
  OpenClaim.holds_of_cond 6 Try.f6 rfl rfl rfl rfl rfl rfl rfl ⟨rfl, rfl, rfl, rfl, rfl⟩ rfl rfl rfl rfl rfl (by kernel_rfl) Try.func6 (by kernel_rfl)
    (of_decide_eq_true (by kernel_rfl)) (by unfold Func.isWrapper; first | (rw [if_pos (by decide +kernel)]; kernel_rfl) | (rw [if_neg (by decide +kernel)]; exact ⟨rfl, rfl⟩))
    (fun os started H enc _ F => lifted os started H enc F)

theorem proved : Rows.GraphMoreUptoSaid := over
#print axioms proved
end Go.Proofs.Ytkcfjnacnabdaaa.graphMore
