/- LayoutEntries: the law returns true for every input of bulk at most 1048576, and leaves its arguments as they were; the layout's variable as the program's text lays it. -/
import Derived.Test.YtgppfalpncbmbaaDoorRows
import Derived.Test.YtgppfalpncbmbaaDoorCards
import Derived.Test.YtgppfalpncbmbaaDoorTie
import Derived.Test.YtgppfalpncbmbaaDoorEntLaid
import Derived.Test.YtgppfalpncbmbaaDoorEntLaw
import Derived.Test.YtgppfalpncbmbaaDoorEntOne
import Derived.Carry
import Derived.WalkKit
import Derived.ProofKit
import Derived.OpenShut
import Derived.ShutString
import Derived.ChangeOld
import Derived.Deep.DeepHandedRow
import Derived.SevenTiedAt
namespace Go.Proofs.YtgppfalpncbmbaaDoor.layoutEntries
open Go.ChangeShapes Go.WideShapes Go.ChangeAt Go.RowKit
open Go.Proofs.YtgppfalpncbmbaaDoor.EntOne (one_open)
open Go.ChangeMaps (open_string shut_string)
open Go.Proofs.YtgppfalpncbmbaaDoor.Laid Go.Proofs.YtgppfalpncbmbaaDoor.PE Go.Proofs.YtgppfalpncbmbaaDoorW.PrintWords
set_option linter.unusedVariables false

theorem walk (W : World) (a0 : List S47) (A0 : Option Addr) (c0 : Nat) (h0 : Kd.C k47 W A0 a0.length a0) (e0 : a0.length ≤ c0) (w0 : a0.length ≤ 1048576) (z0 : ∀ x ∈ a0, x.f1.size ≤ 1048576) (hL : Amb W) :
    Calls Tryd.prog 8 #[.slice A0 a0.length c0] W fun e W' => e = .returned (.bool true) ∧ Below W.heap.size W W' := by
  obtain ⟨k, hk⟩ := Ev.rounds (ev_LayoutEntries a0 w0 z0)
  exact majordomolaw03_LayoutEntries.calls k A0 c0 a0 true W h0 e0 hL hk

set_option maxRecDepth 100000 in
theorem contract (H : Type) (enc : TypeId × Value → H) (W : World) (base : Nat) (args : Array Value) (ds gs : List (DataW H)) (before : List MemPlace)
    (hval : ∀ (j : Nat) t v, Tryd.f8.params[j]? = some t → args[j]? = some v → Value.okWide Tryd.prog W .any base t v)
    (hW : DataW.Whole enc Tryd.prog Tryd.f8.params.toList Rows.layoutEntriesSpec.vars false W args.toList ds gs before) (hL : laidMetH Tryd.prog Rows.layoutEntriesUptoRow.laid W) (hk : Rows.uptoSmall H (ds ++ gs) = true) :
    Calls Tryd.prog 8 args W fun e W' => ∃ v, e = .returned v ∧ Rows.layoutEntriesSpec.post enc Tryd.prog Tryd.f8 false true false false W args v W' := by
  have hW' := hW
  obtain ⟨p, q, hA0, hV, rfl, hfz, hnd⟩ := hW
  have hA : DataW.TrodAll enc Tryd.prog W 0 (fun _ => true) true Tryd.f8.params.toList args.toList ds p := hA0
  rw [Tryd.params8] at hA hval
  obtain ⟨v0, vs0, d0, ds0, p0, q0, hargs, rfl, rfl, h0, r0⟩ := trodAll_cons hA
  obtain ⟨rfl, rfl, rfl⟩ := trodAll_nil r0
  obtain rfl : args = #[v0] := by cases args; simp_all
  obtain ⟨rfl, rfl⟩ := trodVars_none hV
  have k0 := h0
  have lt0 : ∀ x ∈ p0, x.block < W.heap.size := by obtain ⟨m, hm⟩ := k0; exact DataW.trod_lt m _ _ _ hm
  obtain ⟨A0, a0, c0, rfl, e0, g0, u0, z0⟩ := one_open (hval 0 38 v0 rfl rfl) h0
  have b0 : Rows.uptoBulk d0 ≤ 1048576 := by
    have z := hk
    simp [Rows.uptoSmall, Rows.uptoBulkAll] at z
    omega
  have w0 : a0.length ≤ 1048576 := Nat.le_trans u0 b0
  have y0 : ∀ x ∈ a0, x.f1.size ≤ 1048576 := fun x hx => Nat.le_trans (z0 x hx) b0
  clear hA0
  simp only [List.append_nil] at hW'
  refine (walk W a0 A0 c0 g0 e0 w0 y0 (amb_of_laid hL)).mono fun e W' ⟨he, bel⟩ => ?_
  subst he
  exact ⟨_, rfl, _, _, _, [], _, [], hW', trodAll_mk1 (shut_bool Tryd.underlying4 _), (trodAll_cons_mk (Below.trod Laid.laidOut (by kernel_rfl) (of_decide_eq_true (by kernel_rfl)) k0 bel lt0) trodAll_mk0), rfl, bel.frame _, fun h => by cases h⟩
theorem reads (os : Os) {H : Type} (enc : TypeId × Value → H) : ∃ ds places, DataW.whole enc Tryd.prog ((laidWorld os).forCall (fun _ _ => 0) ⟨#[], #[.slice none 0 0], []⟩).memory Tryd.f8.params.toList (Rows.OpenSpec.upto Rows.layoutEntriesSpec).vars false #[.slice none 0 0].toList 8 = some (ds, [], places) ∧ ds = [.nil] :=
  ⟨_, [], by kernel_rfl, rfl⟩

set_option maxRecDepth 100000 in
theorem lifted (os : Os) (started : os.Started) (H : Type) (enc : TypeId × Value → H) (F : Stop.Interp) :
    ReturnsInHanded {} Tryd.checked os 8 .any ((Rows.OpenSpec.upto Rows.layoutEntriesSpec).preRow enc Tryd.prog Tryd.f8 Rows.layoutEntriesUptoRow.domain false Rows.layoutEntriesUptoRow.laid) (((Rows.OpenSpec.upto Rows.layoutEntriesSpec).at F).post enc Tryd.prog Tryd.f8 false true false false) := by
  obtain ⟨ds0, places, hx, rfl⟩ := reads os enc
  refine returnsInHanded_of_row (C := Tryd.checked) (s := Rows.OpenSpec.upto Rows.layoutEntriesSpec) Laid.own started (by kernel_rfl) Tryd.func8
    (witness_row_at (enc := enc) (C := Tryd.checked) false (laidWorld os) #[.slice none 0 0] rfl (by kernel_rfl) (by kernel_rfl) (by kernel_rfl)
      (OpenSpec.preRow_of_cond 8 hx (by kernel_rfl) (fun k hk => by cases hk; kernel_rfl) (by kernel_rfl) (laid_met os _))) ?_
  intro W base args ds gs before hval hW _ hcond _ hL _ _
  exact contract H enc W base args ds gs before hval hW hL (hcond _ rfl)

theorem over : Rows.layoutEntriesUptoRow.holds Tryd.pinned (Rows.OpenSpec.upto Rows.layoutEntriesSpec) :=
  OpenClaim.holds_of_cond 8 Tryd.f8 rfl rfl rfl rfl rfl rfl rfl ⟨rfl, rfl, rfl, rfl, rfl⟩ rfl rfl rfl rfl rfl (by kernel_rfl) Tryd.func8 (by kernel_rfl)
    (of_decide_eq_true (by kernel_rfl)) (by unfold Func.isWrapper; first | (rw [if_pos (by decide +kernel)]; kernel_rfl) | (rw [if_neg (by decide +kernel)]; exact ⟨rfl, rfl⟩))
    (fun os started H enc _ F => by rw [OpenClaim.pre_eq_preRow]; exact lifted os started H enc F)

theorem proved : Rows.LayoutEntriesUptoCardSaid :=
  Claim7.holds_tied_plain_at .later [] [.data, .data, .pinned] true _ _
    over (fun _ h => by cases h) (by kernel_rfl) (fun _ h => by cases h) layoutEntriesUpto_row_tie rfl ⟨rfl, rfl⟩ (by kernel_rfl) rfl
    (fun f fn hf hfn => by
      obtain rfl : f = 8 := Option.some.inj ((show Tryd.prog.funcNamed "majordomo/majordomolaw03.LayoutEntries" = some 8 by kernel_rfl).symm.trans hf) |>.symm
      obtain rfl : fn = Tryd.f8 := (Option.some.inj (Tryd.func8.symm.trans hfn)).symm
      exact ⟨by kernel_rfl, fun j t ht => by
        rw [Tryd.params8] at ht
        match j, ht with
        | 0, ht =>
          obtain rfl : t = 38 := by simpa using ht.symm
          exact (show Tryd.prog.wantsStandIn 38 = false by kernel_rfl)
        | j + 1, ht => simp at ht⟩)
    (by kernel_rfl)
#print axioms proved
end Go.Proofs.YtgppfalpncbmbaaDoor.layoutEntries
