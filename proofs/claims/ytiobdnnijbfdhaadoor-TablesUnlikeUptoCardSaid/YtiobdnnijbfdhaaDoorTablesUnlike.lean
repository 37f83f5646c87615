/- TablesUnlike: the law returns true for every input of bulk at most 1048576, and leaves its arguments as they were. -/
import Derived.Test.YtiobdnnijbfdhaaDoorRows
import Derived.Test.YtiobdnnijbfdhaaDoorCards
import Derived.Test.YtiobdnnijbfdhaaDoorTie
import Derived.Test.YtiobdnnijbfdhaaDoorTabLaid
import Derived.Test.YtiobdnnijbfdhaaDoorTabArg
import Derived.Test.YtiobdnnijbfdhaaDoorTabUnl
import Derived.Carry
import Derived.WalkKit
import Derived.ProofKit
import Derived.OpenShut
import Derived.ShutString
import Derived.ChangeOld
import Derived.Deep.DeepHandedRow
import Derived.SevenTiedAt
namespace Go.Proofs.YtiobdnnijbfdhaaDoor.tablesUnlike
open Go.ChangeShapes Go.WideShapes Go.ChangeAt Go.RowKit
open Go.Proofs.YtiobdnnijbfdhaaDoor.TabArg
open Go.ChangeMaps (open_string shut_string)
open Go.Proofs.YtiobdnnijbfdhaaDoor.Laid Go.Proofs.YtiobdnnijbfdhaaDoor.PT Go.Proofs.YtiobdnnijbfdhaaDoorW.PrintWords
set_option linter.unusedVariables false

theorem walk (W : World) (a0 : ByteArray) (A1 : Option Addr) (c1 : Nat) (a1 : List S34) (g1 : Kd.C k34 W A1 a1.length a1) (e1 : a1.length ≤ c1) (w1 : a1.length ≤ 1048576) (A2 : Option Addr) (c2 : Nat) (a2 : List S34) (g2 : Kd.C k34 W A2 a2.length a2) (e2 : a2.length ≤ c2) (w2 : a2.length ≤ 1048576) :
    Calls Tryd.prog 5 #[.string a0, .slice A1 a1.length c1, .slice A2 a2.length c2] W fun e W' => e = .returned (.bool true) ∧ Below W.heap.size W W' := by
  exact tablesUnlike a0 A1 c1 a1 A2 c2 a2 W g1 e1 g2 e2 (cells_le g1) (cells_le g2) (by omega)

set_option maxRecDepth 100000 in
theorem contract (H : Type) (enc : TypeId × Value → H) (W : World) (base : Nat) (args : Array Value) (ds gs : List (DataW H)) (before : List MemPlace)
    (hval : ∀ (j : Nat) t v, Tryd.f5.params[j]? = some t → args[j]? = some v → Value.okWide Tryd.prog W .any base t v)
    (hW : DataW.Whole enc Tryd.prog Tryd.f5.params.toList Rows.tablesUnlikeSpec.vars false W args.toList ds gs before) (hL : laidMetH Tryd.prog Rows.tablesUnlikeUptoRow.laid W) (hk : Rows.uptoSmall H (ds ++ gs) = true) :
    Calls Tryd.prog 5 args W fun e W' => ∃ v, e = .returned v ∧ Rows.tablesUnlikeSpec.post enc Tryd.prog Tryd.f5 false true false false W args v W' := by
  have hW' := hW
  obtain ⟨p, q, hA0, hV, rfl, hfz, hnd⟩ := hW
  have hA : DataW.TrodAll enc Tryd.prog W 0 (fun _ => true) true Tryd.f5.params.toList args.toList ds p := hA0
  rw [Tryd.params5] at hA hval
  obtain ⟨v0, vs0, d0, ds0, p0, q0, hargs, rfl, rfl, h0, r0⟩ := trodAll_cons hA
  obtain ⟨v1, vs1, d1, ds1, p1, q1, rfl, rfl, rfl, h1, r1⟩ := trodAll_cons r0
  obtain ⟨v2, vs2, d2, ds2, p2, q2, rfl, rfl, rfl, h2, r2⟩ := trodAll_cons r1
  obtain ⟨rfl, rfl, rfl⟩ := trodAll_nil r2
  obtain rfl : args = #[v0, v1, v2] := by cases args; simp_all
  obtain ⟨rfl, rfl⟩ := trodVars_none hV
  obtain ⟨a0, rfl, rfl, rfl, y0⟩ := open_string Tryd.underlying9 (hval 0 9 v0 rfl rfl) h0
  have kk1 := h1
  have lt1 : ∀ x ∈ p1, x.block < W.heap.size := by obtain ⟨m, hm⟩ := kk1; exact DataW.trod_lt m _ _ _ hm
  obtain ⟨A1, a1, c1, rfl, e1, g1, u1⟩ := rows_row (hval 1 22 v1 rfl rfl) h1
  have b1 : Rows.uptoBulk d1 ≤ 1048576 := by
    have z := hk
    simp [Rows.uptoSmall, Rows.uptoBulkAll] at z
    omega
  have w1 : a1.length ≤ 1048576 := Nat.le_trans u1 b1
  have kk2 := h2
  have lt2 : ∀ x ∈ p2, x.block < W.heap.size := by obtain ⟨m, hm⟩ := kk2; exact DataW.trod_lt m _ _ _ hm
  obtain ⟨A2, a2, c2, rfl, e2, g2, u2⟩ := rows_row (hval 2 22 v2 rfl rfl) h2
  have b2 : Rows.uptoBulk d2 ≤ 1048576 := by
    have z := hk
    simp [Rows.uptoSmall, Rows.uptoBulkAll] at z
    omega
  have w2 : a2.length ≤ 1048576 := Nat.le_trans u2 b2
  clear hA0
  simp only [List.append_nil] at hW'
  refine (walk W a0 A1 c1 a1 g1 e1 w1 A2 c2 a2 g2 e2 w2).mono fun e W' ⟨he, bel⟩ => ?_
  subst he
  exact ⟨_, rfl, _, _, _, [], _, [], hW', trodAll_mk1 (shut_bool Tryd.underlying4 _), (trodAll_cons_mk (shut_string Tryd.underlying9 y0) (trodAll_cons_mk (Below.trod Laid.laidOut (by kernel_rfl) (of_decide_eq_true (by kernel_rfl)) kk1 bel lt1) (trodAll_cons_mk (Below.trod Laid.laidOut (by kernel_rfl) (of_decide_eq_true (by kernel_rfl)) kk2 bel lt2) trodAll_mk0))), rfl, bel.frame _, fun h => by cases h⟩
theorem reads (os : Os) {H : Type} (enc : TypeId × Value → H) : ∃ ds places, DataW.whole enc Tryd.prog ((laidWorld os).forCall (fun _ _ => 0) ⟨#[], #[.string ByteArray.empty, .slice none 0 0, .slice none 0 0], []⟩).memory Tryd.f5.params.toList (Rows.OpenSpec.upto Rows.tablesUnlikeSpec).vars false #[.string ByteArray.empty, .slice none 0 0, .slice none 0 0].toList 8 = some (ds, [], places) ∧ ds = [.lit (.string []), .nil, .nil] :=
  ⟨_, [], by kernel_rfl, rfl⟩

set_option maxRecDepth 100000 in
theorem lifted (os : Os) (started : os.Started) (H : Type) (enc : TypeId × Value → H) (F : Stop.Interp) :
    ReturnsInHanded {} Tryd.checked os 5 .any ((Rows.OpenSpec.upto Rows.tablesUnlikeSpec).preRow enc Tryd.prog Tryd.f5 Rows.tablesUnlikeUptoRow.domain false Rows.tablesUnlikeUptoRow.laid) (((Rows.OpenSpec.upto Rows.tablesUnlikeSpec).at F).post enc Tryd.prog Tryd.f5 false true false false) := by
  obtain ⟨ds0, places, hx, rfl⟩ := reads os enc
  refine returnsInHanded_of_row (C := Tryd.checked) (s := Rows.OpenSpec.upto Rows.tablesUnlikeSpec) Laid.own started (by kernel_rfl) Tryd.func5
    (witness_row_at (enc := enc) (C := Tryd.checked) false (laidWorld os) #[.string ByteArray.empty, .slice none 0 0, .slice none 0 0] rfl (by kernel_rfl) (by kernel_rfl) (by kernel_rfl)
      (OpenSpec.preRow_of_cond 8 hx (by kernel_rfl) (fun k hk => by cases hk; kernel_rfl) (by kernel_rfl) (laid_met os _))) ?_
  intro W base args ds gs before hval hW _ hcond _ hL _ _
  exact contract H enc W base args ds gs before hval hW hL (hcond _ rfl)

theorem over : Rows.tablesUnlikeUptoRow.holds Tryd.pinned (Rows.OpenSpec.upto Rows.tablesUnlikeSpec) :=
  OpenClaim.holds_of_cond 5 Tryd.f5 rfl rfl rfl rfl rfl rfl rfl ⟨rfl, rfl, rfl, rfl, rfl⟩ rfl rfl rfl rfl rfl (by kernel_rfl) Tryd.func5 (by kernel_rfl)
    (of_decide_eq_true (by kernel_rfl)) (by unfold Func.isWrapper; first | (rw [if_pos (by decide +kernel)]; kernel_rfl) | (rw [if_neg (by decide +kernel)]; exact ⟨rfl, rfl⟩))
    (fun os started H enc _ F => by rw [OpenClaim.pre_eq_preRow]; exact lifted os started H enc F)

theorem proved : Rows.TablesUnlikeUptoCardSaid :=
  Claim7.holds_tied_plain_at .later [] [.data, .pinned] true _ _
    over (fun _ h => by cases h) (by kernel_rfl) (fun _ h => by cases h) tablesUnlikeUpto_row_tie rfl ⟨rfl, rfl⟩ (by kernel_rfl) rfl
    (fun f fn hf hfn => by
      obtain rfl : f = 5 := Option.some.inj ((show Tryd.prog.funcNamed "majordomo/majordomolaw05.TablesUnlike" = some 5 by kernel_rfl).symm.trans hf) |>.symm
      obtain rfl : fn = Tryd.f5 := (Option.some.inj (Tryd.func5.symm.trans hfn)).symm
      exact ⟨by kernel_rfl, fun j t ht => by
        rw [Tryd.params5] at ht
        match j, ht with
        | 0, ht =>
          obtain rfl : t = 9 := by simpa using ht.symm
          exact (show Tryd.prog.wantsStandIn 9 = false by kernel_rfl)
        | 1, ht =>
          obtain rfl : t = 22 := by simpa using ht.symm
          exact (show Tryd.prog.wantsStandIn 22 = false by kernel_rfl)
        | 2, ht =>
          obtain rfl : t = 22 := by simpa using ht.symm
          exact (show Tryd.prog.wantsStandIn 22 = false by kernel_rfl)
        | j + 3, ht => simp at ht⟩)
    (by kernel_rfl)
#print axioms proved
end Go.Proofs.YtiobdnnijbfdhaaDoor.tablesUnlike
