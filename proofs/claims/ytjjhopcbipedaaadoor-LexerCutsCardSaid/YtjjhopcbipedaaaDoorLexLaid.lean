/- The package variable of the lexer's signs: what the row's premise gives a walk; a world that meets it. -/
import Derived.Test.YtjjhopcbipedaaaDoorRows
import Derived.Test.YtjjhopcbipedaaaDoorPXx5
import Derived.ChangeSame
import Derived.ChangeVars
import Derived.JoinedOf
import Derived.RowKit
import Derived.RowKitTokens
import Derived.LaidLaws
import Derived.LaidHandle
import Derived.Stop.Joined
namespace Go.Proofs.YtjjhopcbipedaaaDoor.Laid
open Go.ChangeShapes Go.WideShapes Go.RowKit
open Go.Proofs.YtjjhopcbipedaaaDoor.PX (signB signCells Amb)
theorem gS : Tryd.prog.globalNamed "majordomo/lexer.signs" = some 0 := by kernel_rfl
theorem gT : (Tryd.prog.globals[0]?).map (·.type) = some 42 := by kernel_rfl
theorem cellsA : Tryd.prog.cellsOf 42 = 15 := by kernel_rfl
theorem cellsS : Tryd.prog.cellsOf 9 = 1 := by kernel_rfl
theorem own : ownKnob Tryd.prog.godebug = none := by kernel_rfl
theorem laidOut : laidOutB Tryd.prog = true := by kernel_rfl
abbrev laidOne : List (String × DataW Unit) := [("majordomo/lexer.signs", Rows.laid_majordomo_lexer_signs)]
theorem str_of_trod {H : Type} {enc : TypeId × Value → H} {w : World} {base : Nat} {sp : Nat → Bool} {held : Bool} {fuel : Nat} {c : Value} {y : DataW H × List MemPlace}
    (h : DataW.trod enc Tryd.prog w base sp held fuel 9 [c] = some y) : ∃ s : ByteArray, c = .string s ∧ y = (.lit (.string s.data.toList), []) := by
  obtain ⟨s, hc, hy, _⟩ := DataW.trod_string Tryd.underlying9 h
  simp only [List.cons.injEq, and_true] at hc
  exact ⟨s, hc, hy⟩
theorem ba_of_list {s : ByteArray} {l : List UInt8} (h : s.data.toList = l) : s = ⟨l.toArray⟩ := by
  apply bytes_inj
  rw [h]
set_option maxRecDepth 100000 in
theorem var_of_laid {W : World} (h : laidMetH Tryd.prog laidOne W) : W.var? Tryd.prog "majordomo/lexer.signs" = some signCells := by
  have h' : laidMet Tryd.prog laidOne W := h
  obtain ⟨ps, ⟨g, t, cs, fuel, p, q, hg, ht, hvar, hd, _, _⟩, _⟩ := h'
  obtain rfl := Option.some.inj (gS.symm.trans hg)
  obtain rfl := Option.some.inj (gT.symm.trans ht)
  rw [hvar]
  congr 1
  obtain ⟨l⟩ := cs
  cases fuel with
  | zero => simp [DataW.trod] at hd
  | succ fuel =>
    simp only [DataW.trod, Tryd.underlying42, cellsA, cellsS] at hd
    split at hd
    · rename_i hl
      obtain ⟨c0, c1, c2, c3, c4, c5, c6, c7, c8, c9, c10, c11, c12, c13, c14, rfl⟩ : ∃ c0 c1 c2 c3 c4 c5 c6 c7 c8 c9 c10 c11 c12 c13 c14, l = [c0, c1, c2, c3, c4, c5, c6, c7, c8, c9, c10, c11, c12, c13, c14] := by
        match l, hl with
        | [c0, c1, c2, c3, c4, c5, c6, c7, c8, c9, c10, c11, c12, c13, c14], _ => exact ⟨c0, c1, c2, c3, c4, c5, c6, c7, c8, c9, c10, c11, c12, c13, c14, rfl⟩
      have e : List.range 15 = [0, 1, 2, 3, 4, 5, 6, 7, 8, 9, 10, 11, 12, 13, 14] := rfl
      rw [e] at hd
      simp only [Option.map_eq_some_iff, List.mapM_cons, List.mapM_nil, Option.bind_eq_bind, Option.bind_eq_some_iff, Option.pure_def, Option.some.injEq] at hd
      obtain ⟨xs, ⟨y0, h0, _, ⟨y1, h1, _, ⟨y2, h2, _, ⟨y3, h3, _, ⟨y4, h4, _, ⟨y5, h5, _, ⟨y6, h6, _, ⟨y7, h7, _, ⟨y8, h8, _, ⟨y9, h9, _, ⟨y10, h10, _, ⟨y11, h11, _, ⟨y12, h12, _, ⟨y13, h13, _, ⟨y14, h14, _, rfl, rfl⟩, rfl⟩, rfl⟩, rfl⟩, rfl⟩, rfl⟩, rfl⟩, rfl⟩, rfl⟩, rfl⟩, rfl⟩, rfl⟩, rfl⟩, rfl⟩, rfl⟩, hx⟩ := hd
      obtain ⟨n0, rfl, rfl⟩ := str_of_trod h0
      obtain ⟨n1, rfl, rfl⟩ := str_of_trod h1
      obtain ⟨n2, rfl, rfl⟩ := str_of_trod h2
      obtain ⟨n3, rfl, rfl⟩ := str_of_trod h3
      obtain ⟨n4, rfl, rfl⟩ := str_of_trod h4
      obtain ⟨n5, rfl, rfl⟩ := str_of_trod h5
      obtain ⟨n6, rfl, rfl⟩ := str_of_trod h6
      obtain ⟨n7, rfl, rfl⟩ := str_of_trod h7
      obtain ⟨n8, rfl, rfl⟩ := str_of_trod h8
      obtain ⟨n9, rfl, rfl⟩ := str_of_trod h9
      obtain ⟨n10, rfl, rfl⟩ := str_of_trod h10
      obtain ⟨n11, rfl, rfl⟩ := str_of_trod h11
      obtain ⟨n12, rfl, rfl⟩ := str_of_trod h12
      obtain ⟨n13, rfl, rfl⟩ := str_of_trod h13
      obtain ⟨n14, rfl, rfl⟩ := str_of_trod h14
      simp [Rows.laid_majordomo_lexer_signs] at hx
      obtain ⟨⟨e0, e1, e2, e3, e4, e5, e6, e7, e8, e9, e10, e11, e12, e13, e14⟩, _⟩ := hx
      rw [ba_of_list e0, ba_of_list e1, ba_of_list e2, ba_of_list e3, ba_of_list e4, ba_of_list e5, ba_of_list e6, ba_of_list e7, ba_of_list e8, ba_of_list e9, ba_of_list e10, ba_of_list e11, ba_of_list e12, ba_of_list e13, ba_of_list e14]
      rfl
    · cases hd
theorem amb_of_laid {W : World} (h : laidMetH Tryd.prog laidOne W) : Amb W := by
  have hv := var_of_laid h
  unfold World.var? at hv
  rw [gS, Option.bind_some] at hv
  split at hv
  · rename_i cs t fr hh
    rw [Option.some.inj hv] at hh
    exact ⟨t, fr, hh⟩
  · cases hv
noncomputable def laidWorld (os : Os) : World :=
  { World.holding Tryd.prog os ⟨#[], #[], []⟩ with heap := (World.holding Tryd.prog os ⟨#[], #[], []⟩).heap.modify 0 fun
      | .cells _ t frozen => .cells signCells t frozen
      | o => o }
theorem laid_met (os : Os) (args : Array Value) : laidMetH Tryd.prog laidOne ((laidWorld os).forCall (fun _ _ => 0) ⟨#[], args, []⟩).memory :=
  laidMet_of_run (ps := [.cell 0 0, .cell 0 1, .cell 0 2, .cell 0 3, .cell 0 4, .cell 0 5, .cell 0 6, .cell 0 7, .cell 0 8, .cell 0 9, .cell 0 10, .cell 0 11, .cell 0 12, .cell 0 13, .cell 0 14]) 8 (by kernel_rfl) (by kernel_rfl) (by kernel_rfl)
end Go.Proofs.YtjjhopcbipedaaaDoor.Laid
