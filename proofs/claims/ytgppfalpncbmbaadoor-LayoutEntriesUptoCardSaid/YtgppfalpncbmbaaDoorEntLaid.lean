/- The package variables of the layout's rows: what the row's premise gives a walk; a world that meets it. -/
import Derived.Test.YtgppfalpncbmbaaDoorRows
import Derived.Test.YtgppfalpncbmbaaDoorPEx2
import Derived.ChangeSame
import Derived.ChangeVars
import Derived.JoinedOf
import Derived.RowKit
import Derived.RowKitTokens
import Derived.LaidLaws
import Derived.LaidHandle
import Derived.Deep.DeepLaidRun
import Derived.Stop.Joined
namespace Go.Proofs.YtgppfalpncbmbaaDoor.Laid
open Go.ChangeShapes Go.WideShapes Go.RowKit
open Go.Proofs.YtgppfalpncbmbaaDoor.PE (shapeCells Amb)
theorem gS : Tryd.prog.globalNamed "majordomo/layout.shapes" = some 0 := by kernel_rfl
theorem gT : (Tryd.prog.globals[0]?).map (·.type) = some 77 := by kernel_rfl
theorem cellsA : Tryd.prog.cellsOf 77 = 8 := by kernel_rfl
theorem cellsS : Tryd.prog.cellsOf 76 = 2 := by kernel_rfl
theorem cellsI : Tryd.prog.cellsOf 3 = 1 := by kernel_rfl
theorem laidOut : laidOutB Tryd.prog = true := by kernel_rfl
theorem own : ownKnob Tryd.prog.godebug = none := by kernel_rfl
abbrev laidL : List (String × DataW Unit) := [("unicode/utf8.acceptRanges", Rows.laid_unicode_utf8_acceptRanges), ("majordomo/layout.shapes", Rows.laid_majordomo_layout_shapes), ("unicode/utf8.first", Rows.laid_unicode_utf8_first)]
theorem two_of {H : Type} {enc : TypeId × Value → H} {w : World} {base : Nat} {sp : Nat → Bool} {held : Bool} {fuel : Nat} {c0 c1 : Value} {y : DataW H × List MemPlace}
    (h : DataW.trod enc Tryd.prog w base sp held fuel 76 [c0, c1] = some y) : ∃ a b : Int, c0 = .int .i64 a ∧ c1 = .int .i64 b ∧ y.1 = .agg [.lit (.int .i64 a), .lit (.int .i64 b)] := by
  · obtain ⟨y0, y1, n, rfl, _, h0, h1⟩ := trod_struct2 Tryd.underlying76 h
    simp only [cellsI, List.take_succ_cons, List.take_zero, List.drop_succ_cons, List.drop_zero] at h0 h1
    obtain ⟨a, ha, rfl, _⟩ := DataW.trod_int Tryd.underlying3 h0
    obtain ⟨b, hb, rfl, _⟩ := DataW.trod_int Tryd.underlying3 h1
    simp only [List.cons.injEq, and_true] at ha hb
    exact ⟨a, b, ha, hb, rfl⟩
set_option maxRecDepth 100000 in
theorem var_of_laid {W : World} (h : laidMetH Tryd.prog laidL W) : W.var? Tryd.prog "majordomo/layout.shapes" = some shapeCells := by
  have h' : laidMet Tryd.prog laidL W := h
  obtain ⟨ps, ⟨g0, t0, cs0, fuel0, p0, q0, _, _, _, _, ⟨g, t, cs, fuel, p, q, hg, ht, hvar, hd, _, _⟩, _⟩, _⟩ := h'
  clear h
  obtain rfl := Option.some.inj (gS.symm.trans hg)
  obtain rfl := Option.some.inj (gT.symm.trans ht)
  rw [hvar]
  congr 1
  obtain ⟨l⟩ := cs
  cases fuel with
  | zero => simp [DataW.trod] at hd
  | succ fuel =>
    simp only [DataW.trod, Tryd.underlying77, cellsA, cellsS] at hd
    split at hd
    · rename_i hl
      obtain ⟨c0, c1, c2, c3, c4, c5, c6, c7, rfl⟩ : ∃ c0 c1 c2 c3 c4 c5 c6 c7, l = [c0, c1, c2, c3, c4, c5, c6, c7] := by
        match l, hl with
        | [c0, c1, c2, c3, c4, c5, c6, c7], _ => exact ⟨c0, c1, c2, c3, c4, c5, c6, c7, rfl⟩
      have e : List.range 4 = [0, 1, 2, 3] := rfl
      rw [e] at hd
      simp only [Option.map_eq_some_iff, List.mapM_cons, List.mapM_nil, Option.bind_eq_bind, Option.bind_eq_some_iff, Option.pure_def, Option.some.injEq] at hd
      obtain ⟨xs, ⟨y0, h0, _, ⟨y1, h1, _, ⟨y2, h2, _, ⟨y3, h3, _, rfl, rfl⟩, rfl⟩, rfl⟩, rfl⟩, hx⟩ := hd
      obtain ⟨a0, b0, rfl, rfl, e0⟩ := two_of h0
      obtain ⟨a1, b1, rfl, rfl, e1⟩ := two_of h1
      obtain ⟨a2, b2, rfl, rfl, e2⟩ := two_of h2
      obtain ⟨a3, b3, rfl, rfl, e3⟩ := two_of h3
      have hx1 := congrArg Prod.fst hx
      simp only [List.map_cons, List.map_nil, e0, e1, e2, e3, Rows.laid_majordomo_layout_shapes, DataW.agg.injEq, List.cons.injEq, DataW.lit.injEq, Lit.int.injEq, true_and, and_true] at hx1
      obtain ⟨⟨rfl, rfl⟩, ⟨rfl, rfl⟩, ⟨rfl, rfl⟩, rfl, rfl⟩ := hx1
      rfl
    · cases hd
theorem amb_of_laid {W : World} (h : laidMetH Tryd.prog laidL W) : Amb W := by
  have hv := var_of_laid h
  unfold World.var? at hv
  rw [gS, Option.bind_some] at hv
  split at hv
  · rename_i cs t fr hh
    rw [Option.some.inj hv] at hh
    exact ⟨t, fr, hh⟩
  · cases hv
noncomputable def firstCells : Array Value := (Pinned.utf8FirstZ.map fun (n : Nat) => Value.int .u8 (n : Int)).toArray
noncomputable def rangeCells : Array Value := #[.int .u8 128, .int .u8 191, .int .u8 160, .int .u8 191, .int .u8 128, .int .u8 159, .int .u8 144, .int .u8 191, .int .u8 128, .int .u8 143, .int .u8 0, .int .u8 0, .int .u8 0, .int .u8 0, .int .u8 0, .int .u8 0, .int .u8 0, .int .u8 0, .int .u8 0, .int .u8 0, .int .u8 0, .int .u8 0, .int .u8 0, .int .u8 0, .int .u8 0, .int .u8 0, .int .u8 0, .int .u8 0, .int .u8 0, .int .u8 0, .int .u8 0, .int .u8 0]
def put (c : Array Value) : Obj → Obj
  | .cells _ t frozen => .cells c t frozen
  | o => o
noncomputable def laidWorld (os : Os) : World :=
  { World.holding Tryd.prog os ⟨#[], #[], []⟩ with heap := (((World.holding Tryd.prog os ⟨#[], #[], []⟩).heap.modify 0 (put shapeCells)).modify 2 (put firstCells)).modify 3 (put rangeCells) }
set_option maxRecDepth 100000 in
theorem laid_met (os : Os) (args : Array Value) : laidMet Tryd.prog laidL ((laidWorld os).forCall (fun _ _ => 0) ⟨#[], args, []⟩).memory :=
  laidMet_of_run3 8 (by kernel_rfl) (by kernel_rfl) (by kernel_rfl)
end Go.Proofs.YtgppfalpncbmbaaDoor.Laid
