/- SyntaxBeginnings: where words are refused, what is ahead of that word is the beginning of some manifest, and what goes one word further is not: for any words and any others of bulk at most 1048576. -/
import Derived.Test.YtoggcdldoinbnaaRows
import Derived.Test.YtoggcdldoinbnaaSynBg
import Derived.WalkKit
import Derived.ProofKit
import Derived.OpenShut
import Derived.Carry
import Derived.JoinedCond
import Derived.JoinedRecord
namespace Go.Proofs.Ytoggcdldoinbnaa.syntaxBeginnings
open Go.ChangeShapes Go.WideShapes Go.ChangeAt Go.RowKit
set_option linter.unusedVariables false

theorem own : ownKnob Try.prog.godebug = none := by kernel_rfl
theorem laidOut : laidOutB Try.prog = true := by kernel_rfl
theorem walk (W : World) (A0 : Option Addr) (c0 : Nat) (a0 : List W3) (A1 : Option Addr) (c1 : Nat) (a1 : List W3) (g0 : WRow W.heap.size W A0 a0) (n0 : A0 = none → c0 = 0) (e0 : a0.length ≤ c0) (w0 : a0.length ≤ 1048576) (g1 : WRow W.heap.size W A1 a1) (n1 : A1 = none → c1 = 0) (e1 : a1.length ≤ c1) (w1 : a1.length ≤ 1048576) :
    Calls Try.prog 4 #[.slice A0 a0.length c0, .slice A1 a1.length c1] W fun e W' => e = .returned (.bool true) ∧ Below W.heap.size W W' :=
  begin_walk A0 c0 a0 A1 c1 a1 W g0 n0 n1 e0 g1 w0 w1

set_option maxRecDepth 100000 in
theorem contract (H : Type) (enc : TypeId × Value → H) (W : World) (base : Nat) (args : Array Value) (ds gs : List (DataW H)) (before : List MemPlace)
    (hval : ∀ (j : Nat) t v, Try.f4.params[j]? = some t → args[j]? = some v → Value.okWide Try.prog W .any base t v)
    (hW : DataW.Whole enc Try.prog Try.f4.params.toList Rows.syntaxBeginningsSpec.vars false W args.toList ds gs before) (hk : Rows.uptoSmall H (ds ++ gs) = true) :
    Calls Try.prog 4 args W fun e W' => ∃ v, e = .returned v ∧ Rows.syntaxBeginningsSpec.post enc Try.prog Try.f4 false true false false W args v W' := by
  have hW' := hW
  obtain ⟨p, q, hA0, hV, rfl, hfz, hnd⟩ := hW
  have hA : DataW.TrodAll enc Try.prog W 0 (fun _ => true) true Try.f4.params.toList args.toList ds p := hA0
  rw [Try.params4] at hA hval
  obtain ⟨v0, vs0, d0, ds0, p0, q0, hargs, rfl, rfl, h0, r0⟩ := trodAll_cons hA
  obtain ⟨v1, vs1, d1, ds1, p1, q1, rfl, rfl, rfl, h1, r1⟩ := trodAll_cons r0
  obtain ⟨rfl, rfl, rfl⟩ := trodAll_nil r1
  obtain rfl : args = #[v0, v1] := by cases args; simp_all
  obtain ⟨rfl, rfl⟩ := trodVars_none hV
  have k0 := h0
  have lt0 : ∀ x ∈ p0, x.block < W.heap.size := by obtain ⟨m, hm⟩ := k0; exact DataW.trod_lt m _ _ _ hm
  obtain ⟨A0, a0, c0, rfl, n0, e0, g0, m0, u0⟩ := words_open (hval 0 29 v0 rfl rfl) h0
  have w0 : a0.length ≤ 1048576 := Nat.le_trans u0 (by
    have z := hk
    simp [Rows.uptoSmall, Rows.uptoBulkAll] at z
    omega)
  have k1 := h1
  have lt1 : ∀ x ∈ p1, x.block < W.heap.size := by obtain ⟨m, hm⟩ := k1; exact DataW.trod_lt m _ _ _ hm
  obtain ⟨A1, a1, c1, rfl, n1, e1, g1, m1, u1⟩ := words_open (hval 1 29 v1 rfl rfl) h1
  have w1 : a1.length ≤ 1048576 := Nat.le_trans u1 (by
    have z := hk
    simp [Rows.uptoSmall, Rows.uptoBulkAll] at z
    omega)
  clear hA0
  simp only [List.append_nil] at hW'
  refine (walk W A0 c0 a0 A1 c1 a1 g0 n0 e0 w0 g1 n1 e1 w1).mono fun e W' ⟨he, bel⟩ => ?_
  subst he
  exact ⟨_, rfl, _, _, _, [], _, [], hW', trodAll_mk1 (shut_bool Try.underlying4 _), (trodAll_cons_mk (Below.trod laidOut (by kernel_rfl) (of_decide_eq_true (by kernel_rfl)) k0 bel lt0) (trodAll_cons_mk (Below.trod laidOut (by kernel_rfl) (of_decide_eq_true (by kernel_rfl)) k1 bel lt1) trodAll_mk0)), rfl, bel.frame _, fun h => by cases h⟩

set_option maxRecDepth 100000 in
theorem lifted (os : Os) (started : os.Started) (H : Type) (enc : TypeId × Value → H) (F : Stop.Interp) :
    ReturnsInHanded {} Try.checked os 4 .any ((Rows.OpenSpec.upto Rows.syntaxBeginningsSpec).pre6 enc Try.prog Try.f4 Rows.syntaxBeginningsUptoRow.domain false) (((Rows.OpenSpec.upto Rows.syntaxBeginningsSpec).at F).post enc Try.prog Try.f4 false true false false) := by
  refine returnsInHanded_of_cond (C := Try.checked) (s := (Rows.OpenSpec.upto Rows.syntaxBeginningsSpec)) (k := Rows.uptoSmall) rfl own started (by kernel_rfl) Try.func4
    (OpenSpec.witness (enc := enc) (C := Try.checked) (s := (Rows.OpenSpec.upto Rows.syntaxBeginningsSpec)) (k := Rows.uptoSmall) rfl false ⟨#[], #[.slice none 0 0, .slice none 0 0], []⟩ 8 (by kernel_rfl) (by kernel_rfl) (by kernel_rfl)
      (x := ([.nil, .nil], [], [])) (by kernel_rfl) rfl (by kernel_rfl)) ?_
  intro W base args ds gs before hval hW _ hk _
  exact contract H enc W base args ds gs before hval hW hk

theorem over : Rows.syntaxBeginningsUptoRow.holds Try.pinned (Rows.OpenSpec.upto Rows.syntaxBeginningsSpec) :=
  OpenClaim.holds_of_cond 4 Try.f4 rfl rfl rfl rfl rfl rfl rfl ⟨rfl, rfl, rfl, rfl, rfl⟩ rfl rfl rfl rfl rfl (by kernel_rfl) Try.func4 (by kernel_rfl)
    (of_decide_eq_true (by kernel_rfl)) (by unfold Func.isWrapper; first | (rw [if_pos (by decide +kernel)]; kernel_rfl) | (rw [if_neg (by decide +kernel)]; exact ⟨rfl, rfl⟩))
    (fun os started H enc _ F => lifted os started H enc F)

theorem proved : Rows.SyntaxBeginningsUptoSaid := over
#print axioms proved
end Go.Proofs.Ytoggcdldoinbnaa.syntaxBeginnings
