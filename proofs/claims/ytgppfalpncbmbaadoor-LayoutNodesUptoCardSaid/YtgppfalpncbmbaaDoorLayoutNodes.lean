/- LayoutNodes: the law returns true for every input of bulk at most 1048576, and leaves its arguments as they were; the layout's variable as the program's text lays it. -/
import Derived.Test.YtgppfalpncbmbaaDoorRows
import Derived.Test.YtgppfalpncbmbaaDoorCards
import Derived.Test.YtgppfalpncbmbaaDoorTie
import Derived.Test.YtgppfalpncbmbaaDoorNodLaid
import Derived.Test.YtgppfalpncbmbaaDoorNodTake
import Derived.Test.YtgppfalpncbmbaaDoorNodArg
import Derived.Carry
import Derived.WalkKit
import Derived.ProofKit
import Derived.OpenShut
import Derived.ShutString
import Derived.ChangeOld
import Derived.Deep.DeepHandedRow
import Derived.SevenTiedAt
namespace Go.Proofs.YtgppfalpncbmbaaDoor.layoutNodes
open Go.ChangeShapes Go.WideShapes Go.ChangeAt Go.RowKit
open Go.Proofs.YtgppfalpncbmbaaDoor.NodArg (node_open)
open Go.ChangeMaps (open_string shut_string)
open Go.Proofs.YtgppfalpncbmbaaDoor.Laid Go.Proofs.YtgppfalpncbmbaaDoor.PN Go.Proofs.YtgppfalpncbmbaaDoorW.PrintWords
set_option linter.unusedVariables false

theorem walk (W : World) (a0 : List Int) (k0 m0 s0 o0 : Int) (A0 : Option Addr) (c0 : Nat) (h0 : Kd.C (Kd.int .i64) W A0 a0.length a0) (e0 : a0.length ≤ c0) (w0 : a0.length ≤ 1048576) (hL : Amb W) :
    Calls Tryd.prog 9 #[.agg #[.int .i64 k0, .int .i64 m0, .int .i64 s0, .slice A0 a0.length c0, .int .i64 o0]] W fun e W' => e = .returned (.bool true) ∧ Below W.heap.size W W' := by
  obtain ⟨k, hk⟩ := Ev.rounds (ev_LayoutNodes k0 m0 s0 o0 a0 w0)
  exact majordomolaw03_LayoutNodes.calls k k0 m0 s0 A0 c0 a0 o0 true W h0 e0 hL hk

set_option maxRecDepth 100000 in
theorem contract (H : Type) (enc : TypeId × Value → H) (W : World) (base : Nat) (args : Array Value) (ds gs : List (DataW H)) (before : List MemPlace)
    (hval : ∀ (j : Nat) t v, Tryd.f9.params[j]? = some t → args[j]? = some v → Value.okWide Tryd.prog W .any base t v)
    (hW : DataW.Whole enc Tryd.prog Tryd.f9.params.toList Rows.layoutNodesSpec.vars false W args.toList ds gs before) (hL : laidMetH Tryd.prog Rows.layoutNodesUptoRow.laid W) (hk : Rows.uptoSmall H (ds ++ gs) = true) :
    Calls Tryd.prog 9 args W fun e W' => ∃ v, e = .returned v ∧ Rows.layoutNodesSpec.post enc Tryd.prog Tryd.f9 false true false false W args v W' := by
  have hW' := hW
  obtain ⟨p, q, hA0, hV, rfl, hfz, hnd⟩ := hW
  have hA : DataW.TrodAll enc Tryd.prog W 0 (fun _ => true) true Tryd.f9.params.toList args.toList ds p := hA0
  rw [Tryd.params9] at hA hval
  obtain ⟨v0, vs0, d0, ds0, p0, q0, hargs, rfl, rfl, h0, r0⟩ := trodAll_cons hA
  obtain ⟨rfl, rfl, rfl⟩ := trodAll_nil r0
  obtain rfl : args = #[v0] := by cases args; simp_all
  obtain ⟨rfl, rfl⟩ := trodVars_none hV
  have kk0 := h0
  have lt0 : ∀ x ∈ p0, x.block < W.heap.size := by obtain ⟨m, hm⟩ := kk0; exact DataW.trod_lt m _ _ _ hm
  obtain ⟨k0, m0, s0, A0, a0, c0, o0, rfl, e0, g0, u0⟩ := node_open (hval 0 37 v0 rfl rfl) h0
  have b0 : Rows.uptoBulk d0 ≤ 1048576 := by
    have z := hk
    simp [Rows.uptoSmall, Rows.uptoBulkAll] at z
    omega
  have w0 : a0.length ≤ 1048576 := Nat.le_trans u0 b0
  clear hA0
  simp only [List.append_nil] at hW'
  refine (walk W a0 k0 m0 s0 o0 A0 c0 g0 e0 w0 (amb_of_laid hL)).mono fun e W' ⟨he, bel⟩ => ?_
  subst he
  exact ⟨_, rfl, _, _, _, [], _, [], hW', trodAll_mk1 (shut_bool Tryd.underlying4 _), (trodAll_cons_mk (Below.trod Laid.laidOut (by kernel_rfl) (of_decide_eq_true (by kernel_rfl)) kk0 bel lt0) trodAll_mk0), rfl, bel.frame _, fun h => by cases h⟩
theorem reads (os : Os) {H : Type} (enc : TypeId × Value → H) : ∃ ds places, DataW.whole enc Tryd.prog ((laidWorld os).forCall (fun _ _ => 0) ⟨#[], #[.agg #[.int .i64 0, .int .i64 0, .int .i64 0, .slice none 0 0, .int .i64 0]], []⟩).memory Tryd.f9.params.toList (Rows.OpenSpec.upto Rows.layoutNodesSpec).vars false #[.agg #[.int .i64 0, .int .i64 0, .int .i64 0, .slice none 0 0, .int .i64 0]].toList 8 = some (ds, [], places) ∧ ds = [.agg [.lit (.int .i64 0), .lit (.int .i64 0), .lit (.int .i64 0), .nil, .lit (.int .i64 0)]] :=
  ⟨_, [], by kernel_rfl, rfl⟩

set_option maxRecDepth 100000 in
theorem lifted (os : Os) (started : os.Started) (H : Type) (enc : TypeId × Value → H) (F : Stop.Interp) :
    ReturnsInHanded {} Tryd.checked os 9 .any ((Rows.OpenSpec.upto Rows.layoutNodesSpec).preRow enc Tryd.prog Tryd.f9 Rows.layoutNodesUptoRow.domain false Rows.layoutNodesUptoRow.laid) (((Rows.OpenSpec.upto Rows.layoutNodesSpec).at F).post enc Tryd.prog Tryd.f9 false true false false) := by
  obtain ⟨ds0, places, hx, rfl⟩ := reads os enc
  refine returnsInHanded_of_row (C := Tryd.checked) (s := Rows.OpenSpec.upto Rows.layoutNodesSpec) Laid.own started (by kernel_rfl) Tryd.func9
    (witness_row_at (enc := enc) (C := Tryd.checked) false (laidWorld os) #[.agg #[.int .i64 0, .int .i64 0, .int .i64 0, .slice none 0 0, .int .i64 0]] rfl (by kernel_rfl) (by kernel_rfl) (by kernel_rfl)
      (OpenSpec.preRow_of_cond 8 hx (by kernel_rfl) (fun k hk => by cases hk; kernel_rfl) (by kernel_rfl) (laid_met os _))) ?_
  intro W base args ds gs before hval hW _ hcond _ hL _ _
  exact contract H enc W base args ds gs before hval hW hL (hcond _ rfl)

theorem over : Rows.layoutNodesUptoRow.holds Tryd.pinned (Rows.OpenSpec.upto Rows.layoutNodesSpec) :=
  OpenClaim.holds_of_cond 9 Tryd.f9 rfl rfl rfl rfl rfl rfl rfl ⟨rfl, rfl, rfl, rfl, rfl⟩ rfl rfl rfl rfl rfl (by kernel_rfl) Tryd.func9 (by kernel_rfl)
    (of_decide_eq_true (by kernel_rfl)) (by unfold Func.isWrapper; first | (rw [if_pos (by decide +kernel)]; kernel_rfl) | (rw [if_neg (by decide +kernel)]; exact ⟨rfl, rfl⟩))
    (fun os started H enc _ F => by rw [OpenClaim.pre_eq_preRow]; exact lifted os started H enc F)

theorem proved : Rows.LayoutNodesUptoCardSaid :=
  Claim7.holds_tied_plain_at .later [] [.data, .data, .pinned] true _ _
    over (fun _ h => by cases h) (by kernel_rfl) (fun _ h => by cases h) layoutNodesUpto_row_tie rfl ⟨rfl, rfl⟩ (by kernel_rfl) rfl
    (fun f fn hf hfn => by
      obtain rfl : f = 9 := Option.some.inj ((show Tryd.prog.funcNamed "majordomo/majordomolaw03.LayoutNodes" = some 9 by kernel_rfl).symm.trans hf) |>.symm
      obtain rfl : fn = Tryd.f9 := (Option.some.inj (Tryd.func9.symm.trans hfn)).symm
      exact ⟨by kernel_rfl, fun j t ht => by
        rw [Tryd.params9] at ht
        match j, ht with
        | 0, ht =>
          obtain rfl : t = 37 := by simpa using ht.symm
          exact (show Tryd.prog.wantsStandIn 37 = false by kernel_rfl)
        | j + 1, ht => simp at ht⟩)
    (by kernel_rfl)
#print axioms proved
end Go.Proofs.YtgppfalpncbmbaaDoor.layoutNodes
