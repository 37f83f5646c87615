/- LayoutUnlike: the law returns true for every input of bulk at most 1048576, and leaves its arguments as they were; the layout's variable as the program's text lays it. -/
import Derived.Test.YtgppfalpncbmbaaDoorRows
import Derived.Test.YtgppfalpncbmbaaDoorCards
import Derived.Test.YtgppfalpncbmbaaDoorTie
import Derived.Test.YtgppfalpncbmbaaDoorUnlLaid
import Derived.Test.YtgppfalpncbmbaaDoorUnlike
import Derived.Test.YtgppfalpncbmbaaDoorEntArg
import Derived.Carry
import Derived.WalkKit
import Derived.ProofKit
import Derived.OpenShut
import Derived.ShutString
import Derived.ChangeOld
import Derived.Deep.DeepHandedRow
import Derived.SevenTiedAt
namespace Go.Proofs.YtgppfalpncbmbaaDoor.layoutUnlike
open Go.ChangeShapes Go.WideShapes Go.ChangeAt Go.RowKit
open Go.Proofs.YtgppfalpncbmbaaDoor.NodArg (node_open)
open Go.Proofs.YtgppfalpncbmbaaDoor.EntArg (two_open)
open Go.ChangeMaps (open_string shut_string)
open Go.Proofs.YtgppfalpncbmbaaDoor.Laid Go.Proofs.YtgppfalpncbmbaaDoor.PU Go.Proofs.YtgppfalpncbmbaaDoorW.PrintWords
set_option linter.unusedVariables false

theorem walk (W : World) (a0 : List Int) (a1 : List Int) (a2 : List S47) (k0 m0 s0 o0 : Int) (A0 : Option Addr) (c0 : Nat) (h0 : Kd.C (Kd.int .i64) W A0 a0.length a0) (e0 : a0.length ≤ c0) (w0 : a0.length ≤ 1048576) (k1 m1 s1 o1 : Int) (A1 : Option Addr) (c1 : Nat) (h1 : Kd.C (Kd.int .i64) W A1 a1.length a1) (e1 : a1.length ≤ c1) (w1 : a1.length ≤ 1048576) (A2 : Option Addr) (c2 : Nat) (h2 : Kd.C k47 W A2 a2.length a2) (e2 : a2.length ≤ c2) (w2 : a2.length ≤ 1048576) (M2 : Option Addr) (n2 : List S47) (t2 : Nat) (j2 : Kd.C k47 W M2 n2.length n2) (i2 : n2.length ≤ t2) (hL : Amb W) :
    Calls Tryd.prog 7 #[.agg #[.int .i64 k0, .int .i64 m0, .int .i64 s0, .slice A0 a0.length c0, .int .i64 o0], .agg #[.int .i64 k1, .int .i64 m1, .int .i64 s1, .slice A1 a1.length c1, .int .i64 o1], .agg #[.slice A2 a2.length c2, .slice M2 n2.length t2]] W fun e W' => e = .returned (.bool true) ∧ Below W.heap.size W W' := by
  obtain ⟨k, hk⟩ := Ev.rounds (ev_LayoutUnlikeR k0 m0 s0 o0 a0 k1 m1 s1 o1 a1 a2 n2 w0 w1 w2)
  exact majordomolaw03_LayoutUnlike.calls k k0 m0 s0 A0 c0 a0 o0 k1 m1 s1 A1 c1 a1 o1 A2 c2 a2 M2 t2 n2 true W h0 e0 h1 e1 h2 e2 j2 i2 hL hk

set_option maxRecDepth 100000 in
theorem contract (H : Type) (enc : TypeId × Value → H) (W : World) (base : Nat) (args : Array Value) (ds gs : List (DataW H)) (before : List MemPlace)
    (hval : ∀ (j : Nat) t v, Tryd.f7.params[j]? = some t → args[j]? = some v → Value.okWide Tryd.prog W .any base t v)
    (hW : DataW.Whole enc Tryd.prog Tryd.f7.params.toList Rows.layoutUnlikeSpec.vars false W args.toList ds gs before) (hL : laidMetH Tryd.prog Rows.layoutUnlikeUptoRow.laid W) (hk : Rows.uptoSmall H (ds ++ gs) = true) :
    Calls Tryd.prog 7 args W fun e W' => ∃ v, e = .returned v ∧ Rows.layoutUnlikeSpec.post enc Tryd.prog Tryd.f7 false true false false W args v W' := by
  have hW' := hW
  obtain ⟨p, q, hA0, hV, rfl, hfz, hnd⟩ := hW
  have hA : DataW.TrodAll enc Tryd.prog W 0 (fun _ => true) true Tryd.f7.params.toList args.toList ds p := hA0
  rw [Tryd.params7] at hA hval
  obtain ⟨v0, vs0, d0, ds0, p0, q0, hargs, rfl, rfl, h0, r0⟩ := trodAll_cons hA
  obtain ⟨v1, vs1, d1, ds1, p1, q1, rfl, rfl, rfl, h1, r1⟩ := trodAll_cons r0
  obtain ⟨v2, vs2, d2, ds2, p2, q2, rfl, rfl, rfl, h2, r2⟩ := trodAll_cons r1
  obtain ⟨rfl, rfl, rfl⟩ := trodAll_nil r2
  obtain rfl : args = #[v0, v1, v2] := by cases args; simp_all
  obtain ⟨rfl, rfl⟩ := trodVars_none hV
  have kk0 := h0
  have lt0 : ∀ x ∈ p0, x.block < W.heap.size := by obtain ⟨m, hm⟩ := kk0; exact DataW.trod_lt m _ _ _ hm
  obtain ⟨k0, m0, s0, A0, a0, c0, o0, rfl, e0, g0, u0⟩ := node_open (hval 0 37 v0 rfl rfl) h0
  have b0 : Rows.uptoBulk d0 ≤ 1048576 := by
    have z := hk
    simp [Rows.uptoSmall, Rows.uptoBulkAll] at z
    omega
  have w0 : a0.length ≤ 1048576 := Nat.le_trans u0 b0
  have kk1 := h1
  have lt1 : ∀ x ∈ p1, x.block < W.heap.size := by obtain ⟨m, hm⟩ := kk1; exact DataW.trod_lt m _ _ _ hm
  obtain ⟨k1, m1, s1, A1, a1, c1, o1, rfl, e1, g1, u1⟩ := node_open (hval 1 37 v1 rfl rfl) h1
  have b1 : Rows.uptoBulk d1 ≤ 1048576 := by
    have z := hk
    simp [Rows.uptoSmall, Rows.uptoBulkAll] at z
    omega
  have w1 : a1.length ≤ 1048576 := Nat.le_trans u1 b1
  have kk2 := h2
  have lt2 : ∀ x ∈ p2, x.block < W.heap.size := by obtain ⟨m, hm⟩ := kk2; exact DataW.trod_lt m _ _ _ hm
  obtain ⟨A2, a2, c2, M2, n2, t2, rfl, e2, g2, i2, j2, u2, z2⟩ := two_open (hval 2 39 v2 rfl rfl) h2
  have b2 : Rows.uptoBulk d2 ≤ 1048576 := by
    have z := hk
    simp [Rows.uptoSmall, Rows.uptoBulkAll] at z
    omega
  have w2 : a2.length ≤ 1048576 := Nat.le_trans u2 b2
  clear hA0
  simp only [List.append_nil] at hW'
  refine (walk W a0 a1 a2 k0 m0 s0 o0 A0 c0 g0 e0 w0 k1 m1 s1 o1 A1 c1 g1 e1 w1 A2 c2 g2 e2 w2 M2 n2 t2 j2 i2 (amb_of_laid hL)).mono fun e W' ⟨he, bel⟩ => ?_
  subst he
  exact ⟨_, rfl, _, _, _, [], _, [], hW', trodAll_mk1 (shut_bool Tryd.underlying4 _), (trodAll_cons_mk (Below.trod Laid.laidOut (by kernel_rfl) (of_decide_eq_true (by kernel_rfl)) kk0 bel lt0) (trodAll_cons_mk (Below.trod Laid.laidOut (by kernel_rfl) (of_decide_eq_true (by kernel_rfl)) kk1 bel lt1) (trodAll_cons_mk (Below.trod Laid.laidOut (by kernel_rfl) (of_decide_eq_true (by kernel_rfl)) kk2 bel lt2) trodAll_mk0))), rfl, bel.frame _, fun h => by cases h⟩
theorem reads (os : Os) {H : Type} (enc : TypeId × Value → H) : ∃ ds places, DataW.whole enc Tryd.prog ((laidWorld os).forCall (fun _ _ => 0) ⟨#[], #[.agg #[.int .i64 0, .int .i64 0, .int .i64 0, .slice none 0 0, .int .i64 0], .agg #[.int .i64 0, .int .i64 0, .int .i64 0, .slice none 0 0, .int .i64 0], .agg #[.slice none 0 0, .slice none 0 0]], []⟩).memory Tryd.f7.params.toList (Rows.OpenSpec.upto Rows.layoutUnlikeSpec).vars false #[.agg #[.int .i64 0, .int .i64 0, .int .i64 0, .slice none 0 0, .int .i64 0], .agg #[.int .i64 0, .int .i64 0, .int .i64 0, .slice none 0 0, .int .i64 0], .agg #[.slice none 0 0, .slice none 0 0]].toList 8 = some (ds, [], places) ∧ ds = [.agg [.lit (.int .i64 0), .lit (.int .i64 0), .lit (.int .i64 0), .nil, .lit (.int .i64 0)], .agg [.lit (.int .i64 0), .lit (.int .i64 0), .lit (.int .i64 0), .nil, .lit (.int .i64 0)], .agg [.nil, .nil]] :=
  ⟨_, [], by kernel_rfl, rfl⟩

set_option maxRecDepth 100000 in
theorem lifted (os : Os) (started : os.Started) (H : Type) (enc : TypeId × Value → H) (F : Stop.Interp) :
    ReturnsInHanded {} Tryd.checked os 7 .any ((Rows.OpenSpec.upto Rows.layoutUnlikeSpec).preRow enc Tryd.prog Tryd.f7 Rows.layoutUnlikeUptoRow.domain false Rows.layoutUnlikeUptoRow.laid) (((Rows.OpenSpec.upto Rows.layoutUnlikeSpec).at F).post enc Tryd.prog Tryd.f7 false true false false) := by
  obtain ⟨ds0, places, hx, rfl⟩ := reads os enc
  refine returnsInHanded_of_row (C := Tryd.checked) (s := Rows.OpenSpec.upto Rows.layoutUnlikeSpec) Laid.own started (by kernel_rfl) Tryd.func7
    (witness_row_at (enc := enc) (C := Tryd.checked) false (laidWorld os) #[.agg #[.int .i64 0, .int .i64 0, .int .i64 0, .slice none 0 0, .int .i64 0], .agg #[.int .i64 0, .int .i64 0, .int .i64 0, .slice none 0 0, .int .i64 0], .agg #[.slice none 0 0, .slice none 0 0]] rfl (by kernel_rfl) (by kernel_rfl) (by kernel_rfl)
      (OpenSpec.preRow_of_cond 8 hx (by kernel_rfl) (fun k hk => by cases hk; kernel_rfl) (by kernel_rfl) (laid_met os _))) ?_
  intro W base args ds gs before hval hW _ hcond _ hL _ _
  exact contract H enc W base args ds gs before hval hW hL (hcond _ rfl)

theorem over : Rows.layoutUnlikeUptoRow.holds Tryd.pinned (Rows.OpenSpec.upto Rows.layoutUnlikeSpec) :=
  OpenClaim.holds_of_cond 7 Tryd.f7 rfl rfl rfl rfl rfl rfl rfl ⟨rfl, rfl, rfl, rfl, rfl⟩ rfl rfl rfl rfl rfl (by kernel_rfl) Tryd.func7 (by kernel_rfl)
    (of_decide_eq_true (by kernel_rfl)) (by unfold Func.isWrapper; first | (rw [if_pos (by decide +kernel)]; kernel_rfl) | (rw [if_neg (by decide +kernel)]; exact ⟨rfl, rfl⟩))
    (fun os started H enc _ F => by rw [OpenClaim.pre_eq_preRow]; exact lifted os started H enc F)

theorem proved : Rows.LayoutUnlikeUptoCardSaid :=
  Claim7.holds_tied_plain_at .later [] [.data, .data, .pinned] true _ _
    over (fun _ h => by cases h) (by kernel_rfl) (fun _ h => by cases h) layoutUnlikeUpto_row_tie rfl ⟨rfl, rfl⟩ (by kernel_rfl) rfl
    (fun f fn hf hfn => by
      obtain rfl : f = 7 := Option.some.inj ((show Tryd.prog.funcNamed "majordomo/majordomolaw03.LayoutUnlike" = some 7 by kernel_rfl).symm.trans hf) |>.symm
      obtain rfl : fn = Tryd.f7 := (Option.some.inj (Tryd.func7.symm.trans hfn)).symm
      exact ⟨by kernel_rfl, fun j t ht => by
        rw [Tryd.params7] at ht
        match j, ht with
        | 0, ht =>
          obtain rfl : t = 37 := by simpa using ht.symm
          exact (show Tryd.prog.wantsStandIn 37 = false by kernel_rfl)
        | 1, ht =>
          obtain rfl : t = 37 := by simpa using ht.symm
          exact (show Tryd.prog.wantsStandIn 37 = false by kernel_rfl)
        | 2, ht =>
          obtain rfl : t = 39 := by simpa using ht.symm
          exact (show Tryd.prog.wantsStandIn 39 = false by kernel_rfl)
        | j + 3, ht => simp at ht⟩)
    (by kernel_rfl)
#print axioms proved
end Go.Proofs.YtgppfalpncbmbaaDoor.layoutUnlike
