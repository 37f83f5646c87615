-- printed by wip/printx (a program of this session's, over the kit's print)
import Derived.Test.YtgppfalpncbmbaaDoorPNx0
import Derived.Test.YtgppfalpncbmbaaDoorPNx1
import Derived.Test.YtgppfalpncbmbaaDoorPNx3
import Derived.Test.YtgppfalpncbmbaaDoorPNx4
import Derived.Test.YtgppfalpncbmbaaDoorPNx6
import Derived.Test.YtgppfalpncbmbaaDoorPNx7
import Derived.Test.YtgppfalpncbmbaaDoorPNx8
namespace Go.Proofs.YtgppfalpncbmbaaDoor.PN
open Go.RowKit Go.Proofs.YtgppfalpncbmbaaDoorW.PrintWords Go.Proofs.YtgppfalpncbmbaaDoorW.PrintLast Go.Proofs.YtgppfalpncbmbaaDoorW.PrintMore
attribute [local go_sem] max2_int min2_int max_two min_two max_three min_three max_four min_four Go.Proofs.YtgppfalpncbmbaaDoor.PxMore.isSome_setCell   -- for this text's walks alone
set_option linter.unusedVariables false
set_option linter.unusedSimpArgs false

/-! ### majordomolaw03_LayoutNodes: function 9 -/
mutual
def majordomolaw03_LayoutNodes.j0 : Nat → List Int → List Int → Int → Bool → Int → Int → Int → List Int → Int → Option (Bool)
  | 0, _, _, _, _, _, _, _, _, _ => none
  | k + 1, x5, x6, x7, x63, x279000, x279001, x279002, x279003, x279004 => if x63 = true then (some false) else (if x7 = 0 then ((layout_TakeNode.f k x5).bind fun bt302 => (if bt302.2.2.2.2.2.2 = 0 then (if bt302.2.2.2.2.2.1 = (mx 0 (wrap64 ((x279003.length : Int) - 6))) then (majordomolaw03_LayoutNodes.j1 k x6 bt302.2.2.2.2.2.1 ((bt302.2.2.2.1.length : Int) != (mn 6 (x279003.length : Int))) x279000 x279001 x279002 x279003 x279004 bt302.1 bt302.2.1 bt302.2.2.1 bt302.2.2.2.1 bt302.2.2.2.2.1) else (majordomolaw03_LayoutNodes.j1 k x6 bt302.2.2.2.2.2.1 true x279000 x279001 x279002 x279003 x279004 bt302.1 bt302.2.1 bt302.2.2.1 bt302.2.2.2.1 bt302.2.2.2.2.1)) else (majordomolaw03_LayoutNodes.j1 k x6 bt302.2.2.2.2.2.1 true x279000 x279001 x279002 x279003 x279004 bt302.1 bt302.2.1 bt302.2.2.1 bt302.2.2.2.1 bt302.2.2.2.2.1))) else (some true))
def majordomolaw03_LayoutNodes.j1 : Nat → List Int → Int → Bool → Int → Int → Int → List Int → Int → Int → Int → Int → List Int → Int → Option (Bool)
  | 0, _, _, _, _, _, _, _, _, _, _, _, _, _ => none
  | k + 1, x6, x13, x92, x279000, x279001, x279002, x279003, x279004, x312000, x312001, x312002, x312003, x312004 => if x92 = true then (some false) else (if x13 > 0 then ((layout_TakeMore.f k x6 x13).bind fun bt312 => (if bt312.2 = 0 then (if x312003.length + bt312.1.length < 17592186044416 then ((majordomolaw03_same.f k x312000 x312001 x312002 (x312003 ++ bt312.1) x312004 x279000 x279001 x279002 x279003 x279004).bind fun t319 => (some t319)) else (none)) else (some false))) else ((majordomolaw03_same.f k x312000 x312001 x312002 x312003 x312004 x279000 x279001 x279002 x279003 x279004).bind fun t320 => (some t320)))
end
def majordomolaw03_LayoutNodes.f (k : Nat) (a0_0 : Int) (a0_1 : Int) (a0_2 : Int) (l0_3 : List Int) (a0_4 : Int) : Option (Bool) := (majordomolaw03_shown.f k).bind fun t279 => ((some (([] : List Int) : List Int)).bind fun y281 => (if y281.length + l0_3.length < 17592186044416 then ((some (y281 ++ l0_3 : List Int)).bind fun y284 => ((layout_PutNode.f a0_0 a0_1 a0_2 y284 a0_4).bind fun bt287 => ((majordomoref03_PutNode.f k a0_0 a0_1 a0_2 l0_3 a0_4).bind fun bt294 => ((majordomolaw03_same.f k a0_0 a0_1 a0_2 y284 a0_4 a0_0 a0_1 a0_2 l0_3 a0_4).bind fun t301 => (if t279 = true then (if (strOfNums bt287.1).toList = (strOfNums bt294.1).toList then (if (strOfNums bt287.2.1).toList = (strOfNums bt294.2.1).toList then (if bt287.2.2 = bt294.2.2 then (majordomolaw03_LayoutNodes.j0 k bt287.1 bt287.2.1 bt287.2.2 (!t301) a0_0 a0_1 a0_2 l0_3 a0_4) else (majordomolaw03_LayoutNodes.j0 k bt287.1 bt287.2.1 bt287.2.2 true a0_0 a0_1 a0_2 l0_3 a0_4)) else (majordomolaw03_LayoutNodes.j0 k bt287.1 bt287.2.1 bt287.2.2 true a0_0 a0_1 a0_2 l0_3 a0_4)) else (majordomolaw03_LayoutNodes.j0 k bt287.1 bt287.2.1 bt287.2.2 true a0_0 a0_1 a0_2 l0_3 a0_4)) else (majordomolaw03_LayoutNodes.j0 k bt287.1 bt287.2.1 bt287.2.2 true a0_0 a0_1 a0_2 l0_3 a0_4)))))) else (none)))
theorem majordomolaw03_LayoutNodes.mono_l : ∀ k, (∀ y0 y1 y2 y3 y4 y5 y6 y7 y8, LeO (majordomolaw03_LayoutNodes.j0 k y0 y1 y2 y3 y4 y5 y6 y7 y8) (majordomolaw03_LayoutNodes.j0 (k + 1) y0 y1 y2 y3 y4 y5 y6 y7 y8)) ∧ (∀ y0 y1 y2 y3 y4 y5 y6 y7 y8 y9 y10 y11 y12, LeO (majordomolaw03_LayoutNodes.j1 k y0 y1 y2 y3 y4 y5 y6 y7 y8 y9 y10 y11 y12) (majordomolaw03_LayoutNodes.j1 (k + 1) y0 y1 y2 y3 y4 y5 y6 y7 y8 y9 y10 y11 y12))
  | 0 => ⟨fun _ _ _ _ _ _ _ _ _ r h => by simp [majordomolaw03_LayoutNodes.j0] at h, fun _ _ _ _ _ _ _ _ _ _ _ _ _ r h => by simp [majordomolaw03_LayoutNodes.j1] at h⟩
  | k + 1 => by
    obtain ⟨ih0, ih1⟩ := majordomolaw03_LayoutNodes.mono_l k
    refine ⟨?_, ?_⟩
    · intro y0 y1 y2 y3 y4 y5 y6 y7 y8
      unfold majordomolaw03_LayoutNodes.j0
      repeat' first
      | (with_reducible exact ih0 _ _ _ _ _ _ _ _ _)
      | (with_reducible exact ih1 _ _ _ _ _ _ _ _ _ _ _ _ _)
      | (with_reducible exact layout_TakeMore.mono _ _ _)
      | (with_reducible exact layout_TakeNode.mono _ _)
      | (with_reducible exact majordomolaw03_same.mono _ _ _ _ _ _ _ _ _ _ _)
      | (with_reducible exact majordomolaw03_shown.mono _)
      | (with_reducible exact majordomoref03_PutNode.mono _ _ _ _ _ _)
      | (with_reducible exact LeO.refl _)
      | (with_reducible exact LeO.none _)
      | (with_reducible refine LeO.ite ?_ ?_)
      | (with_reducible refine LeO.bind ?_ (fun _ => ?_))
      | exact ih0 _ _ _ _ _ _ _ _ _
      | exact ih1 _ _ _ _ _ _ _ _ _ _ _ _ _
      | exact layout_TakeMore.mono _ _ _
      | exact layout_TakeNode.mono _ _
      | exact majordomolaw03_same.mono _ _ _ _ _ _ _ _ _ _ _
      | exact majordomolaw03_shown.mono _
      | exact majordomoref03_PutNode.mono _ _ _ _ _ _
      | exact LeO.none _
      | refine LeO.ite ?_ ?_
      | refine LeO.bind ?_ (fun _ => ?_)
    · intro y0 y1 y2 y3 y4 y5 y6 y7 y8 y9 y10 y11 y12
      unfold majordomolaw03_LayoutNodes.j1
      repeat' first
      | (with_reducible exact ih0 _ _ _ _ _ _ _ _ _)
      | (with_reducible exact ih1 _ _ _ _ _ _ _ _ _ _ _ _ _)
      | (with_reducible exact layout_TakeMore.mono _ _ _)
      | (with_reducible exact layout_TakeNode.mono _ _)
      | (with_reducible exact majordomolaw03_same.mono _ _ _ _ _ _ _ _ _ _ _)
      | (with_reducible exact majordomolaw03_shown.mono _)
      | (with_reducible exact majordomoref03_PutNode.mono _ _ _ _ _ _)
      | (with_reducible exact LeO.refl _)
      | (with_reducible exact LeO.none _)
      | (with_reducible refine LeO.ite ?_ ?_)
      | (with_reducible refine LeO.bind ?_ (fun _ => ?_))
      | exact ih0 _ _ _ _ _ _ _ _ _
      | exact ih1 _ _ _ _ _ _ _ _ _ _ _ _ _
      | exact layout_TakeMore.mono _ _ _
      | exact layout_TakeNode.mono _ _
      | exact majordomolaw03_same.mono _ _ _ _ _ _ _ _ _ _ _
      | exact majordomolaw03_shown.mono _
      | exact majordomoref03_PutNode.mono _ _ _ _ _ _
      | exact LeO.none _
      | refine LeO.ite ?_ ?_
      | refine LeO.bind ?_ (fun _ => ?_)
theorem majordomolaw03_LayoutNodes.mono : ∀ a0 a1 a2 a3 a4 k, LeO (majordomolaw03_LayoutNodes.f k a0 a1 a2 a3 a4) (majordomolaw03_LayoutNodes.f (k + 1) a0 a1 a2 a3 a4) := by
  intro a0 a1 a2 a3 a4 k
  obtain ⟨ih0, ih1⟩ := majordomolaw03_LayoutNodes.mono_l k
  unfold majordomolaw03_LayoutNodes.f
  repeat' first
      | (with_reducible exact ih0 _ _ _ _ _ _ _ _ _)
      | (with_reducible exact ih1 _ _ _ _ _ _ _ _ _ _ _ _ _)
      | (with_reducible exact layout_TakeMore.mono _ _ _)
      | (with_reducible exact layout_TakeNode.mono _ _)
      | (with_reducible exact majordomolaw03_same.mono _ _ _ _ _ _ _ _ _ _ _)
      | (with_reducible exact majordomolaw03_shown.mono _)
      | (with_reducible exact majordomoref03_PutNode.mono _ _ _ _ _ _)
      | (with_reducible exact LeO.refl _)
      | (with_reducible exact LeO.none _)
      | (with_reducible refine LeO.ite ?_ ?_)
      | (with_reducible refine LeO.bind ?_ (fun _ => ?_))
      | exact ih0 _ _ _ _ _ _ _ _ _
      | exact ih1 _ _ _ _ _ _ _ _ _ _ _ _ _
      | exact layout_TakeMore.mono _ _ _
      | exact layout_TakeNode.mono _ _
      | exact majordomolaw03_same.mono _ _ _ _ _ _ _ _ _ _ _
      | exact majordomolaw03_shown.mono _
      | exact majordomoref03_PutNode.mono _ _ _ _ _ _
      | exact LeO.none _
      | refine LeO.ite ?_ ?_
      | refine LeO.bind ?_ (fun _ => ?_)
set_option maxHeartbeats 8000000 in
set_option maxRecDepth 100000 in
theorem majordomolaw03_LayoutNodes.calls (k : Nat) (a0_0 : Int) (a0_1 : Int) (a0_2 : Int) (A0_3 : Option Addr) (c0_3 : Nat) (l0_3 : List Int) (a0_4 : Int) (r : Bool) (w : World) (hr0_3 : Kd.C (Kd.int .i64) w A0_3 l0_3.length l0_3) (hc0_3 : l0_3.length ≤ c0_3) (hamb : Amb w) (h : majordomolaw03_LayoutNodes.f k a0_0 a0_1 a0_2 l0_3 a0_4 = some r) :
    Calls Tryd.prog 9 #[.agg #[.int .i64 a0_0, .int .i64 a0_1, .int .i64 a0_2, .slice A0_3 l0_3.length c0_3, .int .i64 a0_4]] w fun e w' => e = .returned (.bool r) ∧ Below w.heap.size w w' := by
  have hu37 := Tryd.underlying37
  have HAMB := Aside0.mk hamb
  clear hamb
  have HR0_3 := Aside0.mk hr0_3
  have HC0_3 := Aside0.mk hc0_3
  clear hr0_3 hc0_3
  have HB := Aside0.mk (Below.refl w.heap.size w)
  have H : ((majordomolaw03_shown.f k).bind fun t279 => ((some (([] : List Int) : List Int)).bind fun y281 => (if y281.length + l0_3.length < 17592186044416 then ((some (y281 ++ l0_3 : List Int)).bind fun y284 => ((layout_PutNode.f a0_0 a0_1 a0_2 y284 a0_4).bind fun bt287 => ((majordomoref03_PutNode.f k a0_0 a0_1 a0_2 l0_3 a0_4).bind fun bt294 => ((majordomolaw03_same.f k a0_0 a0_1 a0_2 y284 a0_4 a0_0 a0_1 a0_2 l0_3 a0_4).bind fun t301 => (if t279 = true then (if (strOfNums bt287.1).toList = (strOfNums bt294.1).toList then (if (strOfNums bt287.2.1).toList = (strOfNums bt294.2.1).toList then (if bt287.2.2 = bt294.2.2 then (majordomolaw03_LayoutNodes.j0 k bt287.1 bt287.2.1 bt287.2.2 (!t301) a0_0 a0_1 a0_2 l0_3 a0_4) else (majordomolaw03_LayoutNodes.j0 k bt287.1 bt287.2.1 bt287.2.2 true a0_0 a0_1 a0_2 l0_3 a0_4)) else (majordomolaw03_LayoutNodes.j0 k bt287.1 bt287.2.1 bt287.2.2 true a0_0 a0_1 a0_2 l0_3 a0_4)) else (majordomolaw03_LayoutNodes.j0 k bt287.1 bt287.2.1 bt287.2.2 true a0_0 a0_1 a0_2 l0_3 a0_4)) else (majordomolaw03_LayoutNodes.j0 k bt287.1 bt287.2.1 bt287.2.2 true a0_0 a0_1 a0_2 l0_3 a0_4)))))) else (none)))) = some r := h
  clear h
  replace H := Option.bind_eq_some_iff.mp H
  obtain ⟨t279, A20, H⟩ := H
  replace H : ((some (([] : List Int) : List Int)).bind fun y281 => (if y281.length + l0_3.length < 17592186044416 then ((some (y281 ++ l0_3 : List Int)).bind fun y284 => ((layout_PutNode.f a0_0 a0_1 a0_2 y284 a0_4).bind fun bt287 => ((majordomoref03_PutNode.f k a0_0 a0_1 a0_2 l0_3 a0_4).bind fun bt294 => ((majordomolaw03_same.f k a0_0 a0_1 a0_2 y284 a0_4 a0_0 a0_1 a0_2 l0_3 a0_4).bind fun t301 => (if t279 = true then (if (strOfNums bt287.1).toList = (strOfNums bt294.1).toList then (if (strOfNums bt287.2.1).toList = (strOfNums bt294.2.1).toList then (if bt287.2.2 = bt294.2.2 then (majordomolaw03_LayoutNodes.j0 k bt287.1 bt287.2.1 bt287.2.2 (!t301) a0_0 a0_1 a0_2 l0_3 a0_4) else (majordomolaw03_LayoutNodes.j0 k bt287.1 bt287.2.1 bt287.2.2 true a0_0 a0_1 a0_2 l0_3 a0_4)) else (majordomolaw03_LayoutNodes.j0 k bt287.1 bt287.2.1 bt287.2.2 true a0_0 a0_1 a0_2 l0_3 a0_4)) else (majordomolaw03_LayoutNodes.j0 k bt287.1 bt287.2.1 bt287.2.2 true a0_0 a0_1 a0_2 l0_3 a0_4)) else (majordomolaw03_LayoutNodes.j0 k bt287.1 bt287.2.1 bt287.2.2 true a0_0 a0_1 a0_2 l0_3 a0_4)))))) else (none))) = some r := H
  have A2 := Aside0.mk A20
  clear A20
  obtain ⟨y281, hy281⟩ : ∃ y_ : List Int, y_ = (([] : List Int)) := ⟨_, rfl⟩
  replace H : (if y281.length + l0_3.length < 17592186044416 then ((some (y281 ++ l0_3 : List Int)).bind fun y284 => ((layout_PutNode.f a0_0 a0_1 a0_2 y284 a0_4).bind fun bt287 => ((majordomoref03_PutNode.f k a0_0 a0_1 a0_2 l0_3 a0_4).bind fun bt294 => ((majordomolaw03_same.f k a0_0 a0_1 a0_2 y284 a0_4 a0_0 a0_1 a0_2 l0_3 a0_4).bind fun t301 => (if t279 = true then (if (strOfNums bt287.1).toList = (strOfNums bt294.1).toList then (if (strOfNums bt287.2.1).toList = (strOfNums bt294.2.1).toList then (if bt287.2.2 = bt294.2.2 then (majordomolaw03_LayoutNodes.j0 k bt287.1 bt287.2.1 bt287.2.2 (!t301) a0_0 a0_1 a0_2 l0_3 a0_4) else (majordomolaw03_LayoutNodes.j0 k bt287.1 bt287.2.1 bt287.2.2 true a0_0 a0_1 a0_2 l0_3 a0_4)) else (majordomolaw03_LayoutNodes.j0 k bt287.1 bt287.2.1 bt287.2.2 true a0_0 a0_1 a0_2 l0_3 a0_4)) else (majordomolaw03_LayoutNodes.j0 k bt287.1 bt287.2.1 bt287.2.2 true a0_0 a0_1 a0_2 l0_3 a0_4)) else (majordomolaw03_LayoutNodes.j0 k bt287.1 bt287.2.1 bt287.2.2 true a0_0 a0_1 a0_2 l0_3 a0_4)))))) else (none)) = some r := by first | (rw [hy281]; with_reducible exact H) | (have H2_ := (Option.bind_some _ _).symm.trans H; rw [hy281]; with_reducible exact H2_) | (have H2_ := (Option.bind_some _ _).symm.trans H; with_reducible exact H2_) | with_reducible exact H | (rw [hy281]; exact H) | exact H
  have Ny281 := Aside0.mk hy281
  clear hy281
  by_cases c3 : y281.length + l0_3.length < 17592186044416
  · rw [if_pos c3] at H
    have LMc3 := Aside0.mk c3
    clear c3
    obtain ⟨y284, hy284⟩ : ∃ y_ : List Int, y_ = (y281 ++ l0_3) := ⟨_, rfl⟩
    replace H : ((layout_PutNode.f a0_0 a0_1 a0_2 y284 a0_4).bind fun bt287 => ((majordomoref03_PutNode.f k a0_0 a0_1 a0_2 l0_3 a0_4).bind fun bt294 => ((majordomolaw03_same.f k a0_0 a0_1 a0_2 y284 a0_4 a0_0 a0_1 a0_2 l0_3 a0_4).bind fun t301 => (if t279 = true then (if (strOfNums bt287.1).toList = (strOfNums bt294.1).toList then (if (strOfNums bt287.2.1).toList = (strOfNums bt294.2.1).toList then (if bt287.2.2 = bt294.2.2 then (majordomolaw03_LayoutNodes.j0 k bt287.1 bt287.2.1 bt287.2.2 (!t301) a0_0 a0_1 a0_2 l0_3 a0_4) else (majordomolaw03_LayoutNodes.j0 k bt287.1 bt287.2.1 bt287.2.2 true a0_0 a0_1 a0_2 l0_3 a0_4)) else (majordomolaw03_LayoutNodes.j0 k bt287.1 bt287.2.1 bt287.2.2 true a0_0 a0_1 a0_2 l0_3 a0_4)) else (majordomolaw03_LayoutNodes.j0 k bt287.1 bt287.2.1 bt287.2.2 true a0_0 a0_1 a0_2 l0_3 a0_4)) else (majordomolaw03_LayoutNodes.j0 k bt287.1 bt287.2.1 bt287.2.2 true a0_0 a0_1 a0_2 l0_3 a0_4))))) = some r := by first | (rw [hy284]; with_reducible exact H) | (have H2_ := (Option.bind_some _ _).symm.trans H; rw [hy284]; with_reducible exact H2_) | (have H2_ := (Option.bind_some _ _).symm.trans H; with_reducible exact H2_) | with_reducible exact H | (rw [hy284]; exact H) | exact H
    have Ny284 := Aside0.mk hy284
    clear hy284
    replace H := Option.bind_eq_some_iff.mp H
    obtain ⟨⟨t287, t290, t293⟩, A40, H⟩ := H
    replace H : ((majordomoref03_PutNode.f k a0_0 a0_1 a0_2 l0_3 a0_4).bind fun bt294 => ((majordomolaw03_same.f k a0_0 a0_1 a0_2 y284 a0_4 a0_0 a0_1 a0_2 l0_3 a0_4).bind fun t301 => (if t279 = true then (if (strOfNums t287).toList = (strOfNums bt294.1).toList then (if (strOfNums t290).toList = (strOfNums bt294.2.1).toList then (if t293 = bt294.2.2 then (majordomolaw03_LayoutNodes.j0 k t287 t290 t293 (!t301) a0_0 a0_1 a0_2 l0_3 a0_4) else (majordomolaw03_LayoutNodes.j0 k t287 t290 t293 true a0_0 a0_1 a0_2 l0_3 a0_4)) else (majordomolaw03_LayoutNodes.j0 k t287 t290 t293 true a0_0 a0_1 a0_2 l0_3 a0_4)) else (majordomolaw03_LayoutNodes.j0 k t287 t290 t293 true a0_0 a0_1 a0_2 l0_3 a0_4)) else (majordomolaw03_LayoutNodes.j0 k t287 t290 t293 true a0_0 a0_1 a0_2 l0_3 a0_4)))) = some r := H
    have A4 := Aside0.mk A40
    clear A40
    replace H := Option.bind_eq_some_iff.mp H
    obtain ⟨⟨t294, t297, t300⟩, A50, H⟩ := H
    replace H : ((majordomolaw03_same.f k a0_0 a0_1 a0_2 y284 a0_4 a0_0 a0_1 a0_2 l0_3 a0_4).bind fun t301 => (if t279 = true then (if (strOfNums t287).toList = (strOfNums t294).toList then (if (strOfNums t290).toList = (strOfNums t297).toList then (if t293 = t300 then (majordomolaw03_LayoutNodes.j0 k t287 t290 t293 (!t301) a0_0 a0_1 a0_2 l0_3 a0_4) else (majordomolaw03_LayoutNodes.j0 k t287 t290 t293 true a0_0 a0_1 a0_2 l0_3 a0_4)) else (majordomolaw03_LayoutNodes.j0 k t287 t290 t293 true a0_0 a0_1 a0_2 l0_3 a0_4)) else (majordomolaw03_LayoutNodes.j0 k t287 t290 t293 true a0_0 a0_1 a0_2 l0_3 a0_4)) else (majordomolaw03_LayoutNodes.j0 k t287 t290 t293 true a0_0 a0_1 a0_2 l0_3 a0_4))) = some r := H
    have A5 := Aside0.mk A50
    clear A50
    replace H := Option.bind_eq_some_iff.mp H
    obtain ⟨t301, A60, H⟩ := H
    replace H : (if t279 = true then (if (strOfNums t287).toList = (strOfNums t294).toList then (if (strOfNums t290).toList = (strOfNums t297).toList then (if t293 = t300 then (majordomolaw03_LayoutNodes.j0 k t287 t290 t293 (!t301) a0_0 a0_1 a0_2 l0_3 a0_4) else (majordomolaw03_LayoutNodes.j0 k t287 t290 t293 true a0_0 a0_1 a0_2 l0_3 a0_4)) else (majordomolaw03_LayoutNodes.j0 k t287 t290 t293 true a0_0 a0_1 a0_2 l0_3 a0_4)) else (majordomolaw03_LayoutNodes.j0 k t287 t290 t293 true a0_0 a0_1 a0_2 l0_3 a0_4)) else (majordomolaw03_LayoutNodes.j0 k t287 t290 t293 true a0_0 a0_1 a0_2 l0_3 a0_4)) = some r := H
    have A6 := Aside0.mk A60
    clear A60
    have HC7 := Aside0.mk H
    clear H
    go_enter Tryd.func9, Tryd.ntmps9
    go_upto_region 7 with (first | ((with_reducible refine gate_dst (N := 1) rfl ?_); (try (refine gate_guard (by rfl) ?_; dsimp only)); refine box_event ?hg (N := 1) ?hd (cs := #[.int .i64 a0_0, .int .i64 a0_1, .int .i64 a0_2, .slice A0_3 l0_3.length c0_3, .int .i64 a0_4]) (t := 37) ?hr ?_; (case hd => rfl); (case hg => rfl); (case hr => first | (go_simp; done) | (go_simp; rfl)); intro gb278 hg w8 hbox hb; have n0_ := Aside0.mk (below_step (by repeat (first | (with_reducible first | exact HB.out | apply below_alloc | apply pw_below_drewN | apply below_drew1) | exact HB.out)) hb); have n1_ := Aside0.mk (hbox); have n2_ := Aside0.mk ((by rw [hg]; exact (below_size (by repeat (first | (with_reducible first | exact HB.out | apply below_alloc | apply pw_below_drewN | apply below_drew1) | exact HB.out))) : w.heap.size ≤ gb278)); have n3_ := Aside0.mk ((by rw [hg]; exact (below_size (by repeat (first | (with_reducible first | exact HB.out | apply below_alloc | apply pw_below_drewN | apply below_drew1) | exact HB.out))) : w.heap.size ≤ gb278)); clear HB; have HB := n0_; have BK278 := n1_; have GW278 := n2_; have GE278 := n3_; clear n0_ n1_ n2_ n3_; clear hb hbox hg) | ((with_reducible refine gate_callee (f := 11) rfl ?_); refine goesL_ (some 17) rfl rfl Tryd.func11 (by kernel_rfl) rfl #[] rfl (by (try simp only [List.map_toArray, List.map_cons, List.map_nil]); first | done | rfl | (simp only [List.length_drop, List.length_take]; rfl)) ?_; (with_reducible refine (majordomolaw03_shown.calls k  t279 _ ?side1 A2.out).mono ?_); (case side1 => first | exact Amb.below HAMB.out (by repeat (first | (with_reducible first | exact HB.out | apply below_alloc | apply pw_below_drewN | apply below_drew1 | refine below_set ?_ GE278.out) | exact HB.out)) | exact Amb.drawn HAMB.out (by repeat (first | exact Drawn0.refl _ | apply Drawn0.step))); rintro e w9 ⟨rfl, hb⟩; refine ⟨_, rfl, ?_⟩; have n0_ := Aside0.mk (blk_below (g := gb278) (o := .cells #[.int .i64 a0_0, .int .i64 a0_1, .int .i64 a0_2, .slice A0_3 l0_3.length c0_3, .int .i64 a0_4] 37 (0, 0)) (by (with_reducible repeat (first | refine blk_drewN ?_ _ | refine blk_drew ?_ | refine blk_alloc ?_ _)); exact BK278.out) hb); have n1_ := Aside0.mk (below_step (by repeat (first | (with_reducible first | exact HB.out | apply below_alloc | apply pw_below_drewN | apply below_drew1 | refine below_set ?_ GE278.out) | exact HB.out)) hb); clear BK278; clear HB; have BK278 := n0_; have HB := n1_; clear n0_ n1_; (try clear hb); (try clear hb2); (try clear hk); (try clear hi); have hcz10_0 : w9.cell? ⟨gb278, 0, none⟩ = some (.int .i64 a0_0) := (blk_cell BK278.out 0).trans rfl; have hcz10_1 : w9.cell? ⟨gb278, 1, none⟩ = some (.int .i64 a0_1) := (blk_cell BK278.out 1).trans rfl; have hcz10_2 : w9.cell? ⟨gb278, 2, none⟩ = some (.int .i64 a0_2) := (blk_cell BK278.out 2).trans rfl; have hcz10_3 : w9.cell? ⟨gb278, 3, none⟩ = some (.slice A0_3 l0_3.length c0_3) := (blk_cell BK278.out 3).trans rfl; have hcz10_4 : w9.cell? ⟨gb278, 4, none⟩ = some (.int .i64 a0_4) := (blk_cell BK278.out 4).trans rfl; have hfz10_0 := blk_frozen BK278.out 0; have hfz10_1 := blk_frozen BK278.out 1; have hfz10_2 := blk_frozen BK278.out 2; have hfz10_3 := blk_frozen BK278.out 3; have hfz10_4 := blk_frozen BK278.out 4) | ((with_reducible refine gate_dst (N := 4) rfl ?_); (try (refine gate_guard (by rfl) ?_; dsimp only)); refine box_event ?hg (N := 4) ?hd (cs := #[.int .i64 0, .int .i64 0, .int .i64 0, .slice none 0 0, .int .i64 0]) (t := 37) ?hr ?_; (case hd => rfl); (case hg => rfl); (case hr => first | (go_simp; done) | (go_simp; rfl)); intro gb280 hg w11 hbox hb; have n0_ := Aside0.mk (blk_below (g := gb278) (o := .cells #[.int .i64 a0_0, .int .i64 a0_1, .int .i64 a0_2, .slice A0_3 l0_3.length c0_3, .int .i64 a0_4] 37 (0, 0)) (by (with_reducible repeat (first | refine blk_drewN ?_ _ | refine blk_drew ?_ | refine blk_alloc ?_ _)); exact BK278.out) hb); have n1_ := Aside0.mk (below_step (by repeat (first | (with_reducible first | exact HB.out | apply below_alloc | apply pw_below_drewN | apply below_drew1 | refine below_set ?_ GE278.out) | exact HB.out)) hb); have n2_ := Aside0.mk (hbox); have n3_ := Aside0.mk ((by rw [hg]; exact (below_size (by repeat (first | (with_reducible first | exact HB.out | apply below_alloc | apply pw_below_drewN | apply below_drew1 | refine below_set ?_ GE278.out) | exact HB.out))) : w.heap.size ≤ gb280)); have n4_ := Aside0.mk ((by rw [hg]; exact (below_size (by repeat (first | (with_reducible first | exact HB.out | apply below_alloc | apply pw_below_drewN | apply below_drew1 | refine below_set ?_ GE278.out) | exact HB.out))) : w.heap.size ≤ gb280)); have n5_ := Aside0.mk ((by rw [hg]; exact Nat.ne_of_lt (blk_lt (g := gb278) (o := .cells #[.int .i64 a0_0, .int .i64 a0_1, .int .i64 a0_2, .slice A0_3 l0_3.length c0_3, .int .i64 a0_4] 37 (0, 0)) (by (with_reducible repeat (first | refine blk_drewN ?_ _ | refine blk_drew ?_ | refine blk_alloc ?_ _)); exact BK278.out)) : gb278 ≠ gb280)); have n6_ := Aside0.mk ((by rw [hg]; exact Nat.ne_of_gt (blk_lt (g := gb278) (o := .cells #[.int .i64 a0_0, .int .i64 a0_1, .int .i64 a0_2, .slice A0_3 l0_3.length c0_3, .int .i64 a0_4] 37 (0, 0)) (by (with_reducible repeat (first | refine blk_drewN ?_ _ | refine blk_drew ?_ | refine blk_alloc ?_ _)); exact BK278.out)) : gb280 ≠ gb278)); clear BK278; clear HB; have BK278 := n0_; have HB := n1_; have BK280 := n2_; have GW280 := n3_; have GE280 := n4_; have NB278_280 := n5_; have NB280_278 := n6_; clear n0_ n1_ n2_ n3_ n4_ n5_ n6_; clear hb hbox hg; have hnb12 := NB280_278.out; have hnc12 := NB278_280.out; have hcz13_0 : w11.cell? ⟨gb280, 0, none⟩ = some (.int .i64 0) := (blk_cell BK280.out 0).trans rfl; have hcz13_1 : w11.cell? ⟨gb280, 1, none⟩ = some (.int .i64 0) := (blk_cell BK280.out 1).trans rfl; have hcz13_2 : w11.cell? ⟨gb280, 2, none⟩ = some (.int .i64 0) := (blk_cell BK280.out 2).trans rfl; have hcz13_3 : w11.cell? ⟨gb280, 3, none⟩ = some (.slice none 0 0) := (blk_cell BK280.out 3).trans rfl; have hcz13_4 : w11.cell? ⟨gb280, 4, none⟩ = some (.int .i64 0) := (blk_cell BK280.out 4).trans rfl; have hfz13_0 := blk_frozen BK280.out 0; have hfz13_1 := blk_frozen BK280.out 1; have hfz13_2 := blk_frozen BK280.out 2; have hfz13_3 := blk_frozen BK280.out 3; have hfz13_4 := blk_frozen BK280.out 4) | ((with_reducible refine gate_dst (N := 19) rfl ?_); (try (refine gate_guard (by rfl) ?_; dsimp only)); refine Kd.R_lit (Kd.int .i64) _ 3 ?hg (N := 19) ?hd (xs := ([] : List Int)) (inner := []) (ok := fun _ => True) (okp := fun _ => True) ?hr ?hp (fun _ hk => hk) trivial (Below.refl _ _) (Nat.le_refl _) (by simp) ?_; (case hd => rfl); (case hg => rfl); (case hr => first | (go_simp; done) | (go_simp; rfl)); (case hp => exact (Reps.none _ _)); intro v282 w14 ho15 hb hg_ hnew_; clear hg_ hnew_; (first | rw [← Ny281.out] at ho15 | (simp only [Int.reduceToNat] at ho15; rw [← Ny281.out] at ho15)); have n0_ := Aside0.mk (Kd.R_lower ho15 (below_size (by repeat (first | (with_reducible first | exact HB.out | apply below_alloc | apply pw_below_drewN | apply below_drew1 | refine below_set ?_ GE278.out | refine below_set ?_ GE280.out) | exact HB.out)))); have n1_ := Aside0.mk (blk_below (g := gb278) (o := .cells #[.int .i64 a0_0, .int .i64 a0_1, .int .i64 a0_2, .slice A0_3 l0_3.length c0_3, .int .i64 a0_4] 37 (0, 0)) (by (with_reducible repeat (first | refine blk_drewN ?_ _ | refine blk_drew ?_ | refine blk_alloc ?_ _)); refine blk_far ?_ NB278_280.out _; (with_reducible repeat (first | refine blk_drewN ?_ _ | refine blk_drew ?_ | refine blk_alloc ?_ _)); refine blk_far ?_ NB278_280.out _; (with_reducible repeat (first | refine blk_drewN ?_ _ | refine blk_drew ?_ | refine blk_alloc ?_ _)); refine blk_far ?_ NB278_280.out _; (with_reducible repeat (first | refine blk_drewN ?_ _ | refine blk_drew ?_ | refine blk_alloc ?_ _)); refine blk_far ?_ NB278_280.out _; (with_reducible repeat (first | refine blk_drewN ?_ _ | refine blk_drew ?_ | refine blk_alloc ?_ _)); refine blk_far ?_ NB278_280.out _; (with_reducible repeat (first | refine blk_drewN ?_ _ | refine blk_drew ?_ | refine blk_alloc ?_ _)); exact BK278.out) hb); have n2_ := Aside0.mk (blk_below (g := gb280) (o := .cells #[.int .i64 a0_0, .int .i64 a0_1, .int .i64 a0_2, .slice A0_3 l0_3.length c0_3, .int .i64 a0_4] 37 (0, 0)) (by (with_reducible repeat (first | refine blk_drewN ?_ _ | refine blk_drew ?_ | refine blk_alloc ?_ _)); refine blk_put (cs := #[.int .i64 a0_0, .int .i64 a0_1, .int .i64 a0_2, .slice A0_3 l0_3.length c0_3, .int .i64 0]) ?_ 4 _ rfl; (with_reducible repeat (first | refine blk_drewN ?_ _ | refine blk_drew ?_ | refine blk_alloc ?_ _)); refine blk_put (cs := #[.int .i64 a0_0, .int .i64 a0_1, .int .i64 a0_2, .slice none 0 0, .int .i64 0]) ?_ 3 _ rfl; (with_reducible repeat (first | refine blk_drewN ?_ _ | refine blk_drew ?_ | refine blk_alloc ?_ _)); refine blk_put (cs := #[.int .i64 a0_0, .int .i64 a0_1, .int .i64 0, .slice none 0 0, .int .i64 0]) ?_ 2 _ rfl; (with_reducible repeat (first | refine blk_drewN ?_ _ | refine blk_drew ?_ | refine blk_alloc ?_ _)); refine blk_put (cs := #[.int .i64 a0_0, .int .i64 0, .int .i64 0, .slice none 0 0, .int .i64 0]) ?_ 1 _ rfl; (with_reducible repeat (first | refine blk_drewN ?_ _ | refine blk_drew ?_ | refine blk_alloc ?_ _)); refine blk_put (cs := #[.int .i64 0, .int .i64 0, .int .i64 0, .slice none 0 0, .int .i64 0]) ?_ 0 _ rfl; (with_reducible repeat (first | refine blk_drewN ?_ _ | refine blk_drew ?_ | refine blk_alloc ?_ _)); exact BK280.out) hb); have n3_ := Aside0.mk (below_step (by repeat (first | (with_reducible first | exact HB.out | apply below_alloc | apply pw_below_drewN | apply below_drew1 | refine below_set ?_ GE278.out | refine below_set ?_ GE280.out) | exact HB.out)) hb); clear BK278; clear BK280; clear HB; have HO283 := n0_; have BK278 := n1_; have BK280 := n2_; have HB := n3_; clear n0_ n1_ n2_ n3_; clear hb ho15; have hcz16_0 : w14.cell? ⟨gb278, 0, none⟩ = some (.int .i64 a0_0) := (blk_cell BK278.out 0).trans rfl; have hcz16_1 : w14.cell? ⟨gb278, 1, none⟩ = some (.int .i64 a0_1) := (blk_cell BK278.out 1).trans rfl; have hcz16_2 : w14.cell? ⟨gb278, 2, none⟩ = some (.int .i64 a0_2) := (blk_cell BK278.out 2).trans rfl; have hcz16_3 : w14.cell? ⟨gb278, 3, none⟩ = some (.slice A0_3 l0_3.length c0_3) := (blk_cell BK278.out 3).trans rfl; have hcz16_4 : w14.cell? ⟨gb278, 4, none⟩ = some (.int .i64 a0_4) := (blk_cell BK278.out 4).trans rfl; have hfz16_0 := blk_frozen BK278.out 0; have hfz16_1 := blk_frozen BK278.out 1; have hfz16_2 := blk_frozen BK278.out 2; have hfz16_3 := blk_frozen BK278.out 3; have hfz16_4 := blk_frozen BK278.out 4) | ((with_reducible refine gate_builtin (b := .append) (xs := #[.tmp 19, .tmp 21]) rfl ?_); (try (refine gate_guard (by rfl) ?_; dsimp only)); at_builtin; refine Kd.R_append_rows (Kd.int .i64) (w0 := w) w.heap.size rfl (.tmp 19) (.tmp 21) 35 3 (.int .i64 0) 8 rfl Tryd.underlying35 info3 rfl (by decide) (by omega) v282 y281 l0_3 _ _ _ (fun _ => True) (fun _ => False) rfl rfl ?aO ?aR (fun _ _ h => h) (fun _ h => h.elim) ?aF ?aB ?aS ?aL ?_; (case aR => repeat (first | exact (Kd.C_below HR0_3.out HB.out) | (with_reducible refine Kd.C_alloc ?_ _) | (with_reducible refine Kd.C_drewN ?_ _) | (with_reducible refine Kd.C_drew ?_))); (case aB => exact (by repeat (first | (with_reducible first | exact HB.out | apply below_alloc | apply pw_below_drewN | apply below_drew1 | refine below_set ?_ GE278.out | refine below_set ?_ GE280.out) | exact HB.out))); (case aF => exact (fun _ _ => trivial)); (case aO => exact (by (with_reducible repeat (first | apply Kd.R_alloc | apply Kd.R_drewN | apply Kd.R_drew)); exact HO283.out)); (case aS => exact (below_size (by repeat (first | (with_reducible first | exact HB.out | apply below_alloc | apply pw_below_drewN | apply below_drew1 | refine below_set ?_ GE278.out | refine below_set ?_ GE280.out) | exact HB.out)))); (case aL => have := LMc3.out; omega); intro v285 w17 ho hb hg hat; rw [← Ny284.out] at ho; have n0_ := Aside0.mk (blk_grown (g := gb278) (o := .cells #[.int .i64 a0_0, .int .i64 a0_1, .int .i64 a0_2, .slice A0_3 l0_3.length c0_3, .int .i64 a0_4] 37 (0, 0)) (by (with_reducible repeat (first | refine blk_drewN ?_ _ | refine blk_drew ?_ | refine blk_alloc ?_ _)); exact BK278.out) hg (Kd.R_ne HO283.out BK278.out (by decide))); have n1_ := Aside0.mk (blk_grown (g := gb280) (o := .cells #[.int .i64 a0_0, .int .i64 a0_1, .int .i64 a0_2, .slice A0_3 l0_3.length c0_3, .int .i64 a0_4] 37 (0, 0)) (by (with_reducible repeat (first | refine blk_drewN ?_ _ | refine blk_drew ?_ | refine blk_alloc ?_ _)); exact BK280.out) hg (Kd.R_ne HO283.out BK280.out (by decide))); have n2_ := Aside0.mk (hb); have n3_ := Aside0.mk (ho); clear BK278; clear BK280; clear HB; clear HO283; have BK278 := n0_; have BK280 := n1_; have HB := n2_; have HO286 := n3_; clear n0_ n1_ n2_ n3_; clear ho hb hg hat; obtain ⟨Ao18, co18, eo18⟩ := Kd.R_slice HO286.out; subst eo18; have hcz19_0 : w17.cell? ⟨gb280, 0, none⟩ = some (.int .i64 a0_0) := (blk_cell BK280.out 0).trans rfl; have hcz19_1 : w17.cell? ⟨gb280, 1, none⟩ = some (.int .i64 a0_1) := (blk_cell BK280.out 1).trans rfl; have hcz19_2 : w17.cell? ⟨gb280, 2, none⟩ = some (.int .i64 a0_2) := (blk_cell BK280.out 2).trans rfl; have hcz19_3 : w17.cell? ⟨gb280, 3, none⟩ = some (.slice A0_3 l0_3.length c0_3) := (blk_cell BK280.out 3).trans rfl; have hcz19_4 : w17.cell? ⟨gb280, 4, none⟩ = some (.int .i64 a0_4) := (blk_cell BK280.out 4).trans rfl; have hfz19_0 := blk_frozen BK280.out 0; have hfz19_1 := blk_frozen BK280.out 1; have hfz19_2 := blk_frozen BK280.out 2; have hfz19_3 := blk_frozen BK280.out 3; have hfz19_4 := blk_frozen BK280.out 4) | ((with_reducible refine gate_callee (f := 20) rfl ?_); refine goesL_ (some 26) rfl rfl Tryd.func20 (by kernel_rfl) rfl #[.agg #[.int .i64 a0_0, .int .i64 a0_1, .int .i64 a0_2, .slice Ao18 y284.length co18, .int .i64 a0_4]] rfl (by (try simp only [List.map_toArray, List.map_cons, List.map_nil]); first | done | rfl | (simp only [List.length_drop, List.length_take]; rfl)) ?_; (with_reducible refine (layout_PutNode.calls a0_0 a0_1 a0_2 _ _ y284 a0_4 t287 t290 t293 _ ?side1 ?side2 ?side3 A4.out).mono ?_); (case side1 => refine (Kd.R_reads' (e := 3) (base := w.heap.size) (ok := fun k_ => True) (n := y284.length) (c := co18) ?_).2.2; exact (by (with_reducible repeat (first | apply Kd.R_alloc | apply Kd.R_drewN | apply Kd.R_drew)); exact (Kd.R_mono (Kd.R_far (p := ⟨gb280, 3, none⟩) (Kd.R_types HO286.out BK280.out (by decide)) (fun _ hk => hk.2) (.slice Ao18 y284.length co18)) (fun _ h_ => h_.1)))); (case side2 => exact (Kd.R_reads' HO286.out).2.1); (case side3 => first | exact Amb.below HAMB.out (by repeat (first | (with_reducible first | exact HB.out | apply below_alloc | apply pw_below_drewN | apply below_drew1 | refine below_set ?_ GE278.out | refine below_set ?_ GE280.out) | exact HB.out)) | exact Amb.drawn HAMB.out (by repeat (first | exact Drawn0.refl _ | apply Drawn0.step))); rintro e w20 ⟨v288, v291, rfl, ho0, ho1, hb⟩; refine ⟨_, rfl, ?_⟩; have n0_ := Aside0.mk (Kd.R_below (by (with_reducible repeat (first | apply Kd.R_alloc | apply Kd.R_drewN | apply Kd.R_drew)); exact (Kd.R_mono (Kd.R_far (p := ⟨gb280, 3, none⟩) (Kd.R_types HO286.out BK280.out (by decide)) (fun _ hk => hk.2) (.slice Ao18 y284.length co18)) (fun _ h_ => h_.1))) hb); have n1_ := Aside0.mk (Kd.R_lower ho0 (below_size (by repeat (first | (with_reducible first | exact HB.out | apply below_alloc | apply pw_below_drewN | apply below_drew1 | refine below_set ?_ GE278.out | refine below_set ?_ GE280.out) | exact HB.out)))); have n2_ := Aside0.mk (Kd.R_lower ho1 (below_size (by repeat (first | (with_reducible first | exact HB.out | apply below_alloc | apply pw_below_drewN | apply below_drew1 | refine below_set ?_ GE278.out | refine below_set ?_ GE280.out) | exact HB.out)))); have n3_ := Aside0.mk (blk_below (g := gb278) (o := .cells #[.int .i64 a0_0, .int .i64 a0_1, .int .i64 a0_2, .slice A0_3 l0_3.length c0_3, .int .i64 a0_4] 37 (0, 0)) (by (with_reducible repeat (first | refine blk_drewN ?_ _ | refine blk_drew ?_ | refine blk_alloc ?_ _)); refine blk_far ?_ NB278_280.out _; (with_reducible repeat (first | refine blk_drewN ?_ _ | refine blk_drew ?_ | refine blk_alloc ?_ _)); exact BK278.out) hb); have n4_ := Aside0.mk (blk_below (g := gb280) (o := .cells #[.int .i64 a0_0, .int .i64 a0_1, .int .i64 a0_2, .slice Ao18 y284.length co18, .int .i64 a0_4] 37 (0, 0)) (by (with_reducible repeat (first | refine blk_drewN ?_ _ | refine blk_drew ?_ | refine blk_alloc ?_ _)); refine blk_put (cs := #[.int .i64 a0_0, .int .i64 a0_1, .int .i64 a0_2, .slice A0_3 l0_3.length c0_3, .int .i64 a0_4]) ?_ 3 _ rfl; (with_reducible repeat (first | refine blk_drewN ?_ _ | refine blk_drew ?_ | refine blk_alloc ?_ _)); exact BK280.out) hb); have n5_ := Aside0.mk (below_step (by repeat (first | (with_reducible first | exact HB.out | apply below_alloc | apply pw_below_drewN | apply below_drew1 | refine below_set ?_ GE278.out | refine below_set ?_ GE280.out) | exact HB.out)) hb); clear HO286; clear BK278; clear BK280; clear HB; have HO286 := n0_; have HO289 := n1_; have HO292 := n2_; have BK278 := n3_; have BK280 := n4_; have HB := n5_; clear n0_ n1_ n2_ n3_ n4_ n5_; (try clear hb); (try clear hb2); (try clear hk); (try clear hi); (try clear ho0); (try clear ho1); have hcz21_0 : w20.cell? ⟨gb278, 0, none⟩ = some (.int .i64 a0_0) := (blk_cell BK278.out 0).trans rfl; have hcz21_1 : w20.cell? ⟨gb278, 1, none⟩ = some (.int .i64 a0_1) := (blk_cell BK278.out 1).trans rfl; have hcz21_2 : w20.cell? ⟨gb278, 2, none⟩ = some (.int .i64 a0_2) := (blk_cell BK278.out 2).trans rfl; have hcz21_3 : w20.cell? ⟨gb278, 3, none⟩ = some (.slice A0_3 l0_3.length c0_3) := (blk_cell BK278.out 3).trans rfl; have hcz21_4 : w20.cell? ⟨gb278, 4, none⟩ = some (.int .i64 a0_4) := (blk_cell BK278.out 4).trans rfl; have hfz21_0 := blk_frozen BK278.out 0; have hfz21_1 := blk_frozen BK278.out 1; have hfz21_2 := blk_frozen BK278.out 2; have hfz21_3 := blk_frozen BK278.out 3; have hfz21_4 := blk_frozen BK278.out 4) | ((with_reducible refine gate_callee (f := 25) rfl ?_); refine goesL_ (some 32) rfl rfl Tryd.func25 (by kernel_rfl) rfl #[.agg #[.int .i64 a0_0, .int .i64 a0_1, .int .i64 a0_2, .slice A0_3 l0_3.length c0_3, .int .i64 a0_4]] rfl (by (try simp only [List.map_toArray, List.map_cons, List.map_nil]); first | done | rfl | (simp only [List.length_drop, List.length_take]; rfl)) ?_; (with_reducible refine (majordomoref03_PutNode.calls k a0_0 a0_1 a0_2 _ _ l0_3 a0_4 t294 t297 t300 _ ?side1 ?side2 A5.out).mono ?_); (case side1 => repeat (first | exact (Kd.C_below HR0_3.out HB.out) | (with_reducible refine Kd.C_alloc ?_ _) | (with_reducible refine Kd.C_drewN ?_ _) | (with_reducible refine Kd.C_drew ?_))); (case side2 => exact HC0_3.out); rintro e w22 ⟨v295, v298, rfl, ho0, ho1, hb⟩; refine ⟨_, rfl, ?_⟩; have n0_ := Aside0.mk (Kd.R_below (by (with_reducible repeat (first | apply Kd.R_alloc | apply Kd.R_drewN | apply Kd.R_drew)); exact HO286.out) hb); have n1_ := Aside0.mk (Kd.R_mono (Kd.R_told (Kd.R_told (Kd.R_old (by (with_reducible repeat (first | apply Kd.R_alloc | apply Kd.R_drewN | apply Kd.R_drew)); exact HO289.out) hb) (Kd.R_base ho0)) (Kd.R_base ho1)) (fun _ h_ => h_.1)); have n2_ := Aside0.mk (Kd.R_mono (Kd.R_told (Kd.R_told (Kd.R_old (by (with_reducible repeat (first | apply Kd.R_alloc | apply Kd.R_drewN | apply Kd.R_drew)); exact HO292.out) hb) (Kd.R_base ho0)) (Kd.R_base ho1)) (fun _ h_ => h_.1)); have n3_ := Aside0.mk (Kd.R_lower (Kd.R_new' (Kd.R_new' ho0 (Kd.R_lt (by (with_reducible repeat (first | apply Kd.R_alloc | apply Kd.R_drewN | apply Kd.R_drew)); exact HO289.out))) (Kd.R_lt (by (with_reducible repeat (first | apply Kd.R_alloc | apply Kd.R_drewN | apply Kd.R_drew)); exact HO292.out))) (below_size (by repeat (first | (with_reducible first | exact HB.out | apply below_alloc | apply pw_below_drewN | apply below_drew1 | refine below_set ?_ GE278.out | refine below_set ?_ GE280.out) | exact HB.out)))); have n4_ := Aside0.mk (Kd.R_lower (Kd.R_new' (Kd.R_new' ho1 (Kd.R_lt (by (with_reducible repeat (first | apply Kd.R_alloc | apply Kd.R_drewN | apply Kd.R_drew)); exact HO289.out))) (Kd.R_lt (by (with_reducible repeat (first | apply Kd.R_alloc | apply Kd.R_drewN | apply Kd.R_drew)); exact HO292.out))) (below_size (by repeat (first | (with_reducible first | exact HB.out | apply below_alloc | apply pw_below_drewN | apply below_drew1 | refine below_set ?_ GE278.out | refine below_set ?_ GE280.out) | exact HB.out)))); have n5_ := Aside0.mk (blk_below (g := gb278) (o := .cells #[.int .i64 a0_0, .int .i64 a0_1, .int .i64 a0_2, .slice A0_3 l0_3.length c0_3, .int .i64 a0_4] 37 (0, 0)) (by (with_reducible repeat (first | refine blk_drewN ?_ _ | refine blk_drew ?_ | refine blk_alloc ?_ _)); exact BK278.out) hb); have n6_ := Aside0.mk (blk_below (g := gb280) (o := .cells #[.int .i64 a0_0, .int .i64 a0_1, .int .i64 a0_2, .slice Ao18 y284.length co18, .int .i64 a0_4] 37 (0, 0)) (by (with_reducible repeat (first | refine blk_drewN ?_ _ | refine blk_drew ?_ | refine blk_alloc ?_ _)); exact BK280.out) hb); have n7_ := Aside0.mk (below_step (by repeat (first | (with_reducible first | exact HB.out | apply below_alloc | apply pw_below_drewN | apply below_drew1 | refine below_set ?_ GE278.out | refine below_set ?_ GE280.out) | exact HB.out)) hb); clear HO286; clear HO289; clear HO292; clear BK278; clear BK280; clear HB; have HO286 := n0_; have HO289 := n1_; have HO292 := n2_; have HO296 := n3_; have HO299 := n4_; have BK278 := n5_; have BK280 := n6_; have HB := n7_; clear n0_ n1_ n2_ n3_ n4_ n5_ n6_ n7_; (try clear hb); (try clear hb2); (try clear hk); (try clear hi); (try clear ho0); (try clear ho1); have hcz23_0 : w22.cell? ⟨gb280, 0, none⟩ = some (.int .i64 a0_0) := (blk_cell BK280.out 0).trans rfl; have hcz23_1 : w22.cell? ⟨gb280, 1, none⟩ = some (.int .i64 a0_1) := (blk_cell BK280.out 1).trans rfl; have hcz23_2 : w22.cell? ⟨gb280, 2, none⟩ = some (.int .i64 a0_2) := (blk_cell BK280.out 2).trans rfl; have hcz23_3 : w22.cell? ⟨gb280, 3, none⟩ = some (.slice Ao18 y284.length co18) := (blk_cell BK280.out 3).trans rfl; have hcz23_4 : w22.cell? ⟨gb280, 4, none⟩ = some (.int .i64 a0_4) := (blk_cell BK280.out 4).trans rfl; have hfz23_0 := blk_frozen BK280.out 0; have hfz23_1 := blk_frozen BK280.out 1; have hfz23_2 := blk_frozen BK280.out 2; have hfz23_3 := blk_frozen BK280.out 3; have hfz23_4 := blk_frozen BK280.out 4; have hcz24_0 : w22.cell? ⟨gb278, 0, none⟩ = some (.int .i64 a0_0) := (blk_cell BK278.out 0).trans rfl; have hcz24_1 : w22.cell? ⟨gb278, 1, none⟩ = some (.int .i64 a0_1) := (blk_cell BK278.out 1).trans rfl; have hcz24_2 : w22.cell? ⟨gb278, 2, none⟩ = some (.int .i64 a0_2) := (blk_cell BK278.out 2).trans rfl; have hcz24_3 : w22.cell? ⟨gb278, 3, none⟩ = some (.slice A0_3 l0_3.length c0_3) := (blk_cell BK278.out 3).trans rfl; have hcz24_4 : w22.cell? ⟨gb278, 4, none⟩ = some (.int .i64 a0_4) := (blk_cell BK278.out 4).trans rfl; have hfz24_0 := blk_frozen BK278.out 0; have hfz24_1 := blk_frozen BK278.out 1; have hfz24_2 := blk_frozen BK278.out 2; have hfz24_3 := blk_frozen BK278.out 3; have hfz24_4 := blk_frozen BK278.out 4) | ((with_reducible refine gate_callee (f := 21) rfl ?_); refine goesL_ (some 38) rfl rfl Tryd.func21 (by kernel_rfl) rfl #[.agg #[.int .i64 a0_0, .int .i64 a0_1, .int .i64 a0_2, .slice Ao18 y284.length co18, .int .i64 a0_4], .agg #[.int .i64 a0_0, .int .i64 a0_1, .int .i64 a0_2, .slice A0_3 l0_3.length c0_3, .int .i64 a0_4]] rfl (by (try simp only [List.map_toArray, List.map_cons, List.map_nil]); first | done | rfl | (simp only [List.length_drop, List.length_take]; rfl)) ?_; (with_reducible refine (majordomolaw03_same.calls k a0_0 a0_1 a0_2 _ _ y284 a0_4 a0_0 a0_1 a0_2 _ _ l0_3 a0_4 t301 _ ?side1 ?side2 ?side3 ?side4 A6.out).mono ?_); (case side1 => repeat (first | exact (Kd.R_reads' HO286.out).2.2 | (with_reducible refine Kd.C_alloc ?_ _) | (with_reducible refine Kd.C_drewN ?_ _) | (with_reducible refine Kd.C_drew ?_))); (case side2 => exact (Kd.R_reads' HO286.out).2.1); (case side3 => repeat (first | exact (Kd.C_below HR0_3.out HB.out) | (with_reducible refine Kd.C_alloc ?_ _) | (with_reducible refine Kd.C_drewN ?_ _) | (with_reducible refine Kd.C_drew ?_))); (case side4 => exact HC0_3.out); rintro e w25 ⟨rfl, hb⟩; refine ⟨_, rfl, ?_⟩; have n0_ := Aside0.mk (Kd.R_below (by (with_reducible repeat (first | apply Kd.R_alloc | apply Kd.R_drewN | apply Kd.R_drew)); exact HO286.out) hb); have n1_ := Aside0.mk (Kd.R_below (by (with_reducible repeat (first | apply Kd.R_alloc | apply Kd.R_drewN | apply Kd.R_drew)); exact HO289.out) hb); have n2_ := Aside0.mk (Kd.R_below (by (with_reducible repeat (first | apply Kd.R_alloc | apply Kd.R_drewN | apply Kd.R_drew)); exact HO292.out) hb); have n3_ := Aside0.mk (Kd.R_below (by (with_reducible repeat (first | apply Kd.R_alloc | apply Kd.R_drewN | apply Kd.R_drew)); exact HO296.out) hb); have n4_ := Aside0.mk (Kd.R_below (by (with_reducible repeat (first | apply Kd.R_alloc | apply Kd.R_drewN | apply Kd.R_drew)); exact HO299.out) hb); have n5_ := Aside0.mk (blk_below (g := gb278) (o := .cells #[.int .i64 a0_0, .int .i64 a0_1, .int .i64 a0_2, .slice A0_3 l0_3.length c0_3, .int .i64 a0_4] 37 (0, 0)) (by (with_reducible repeat (first | refine blk_drewN ?_ _ | refine blk_drew ?_ | refine blk_alloc ?_ _)); exact BK278.out) hb); have n6_ := Aside0.mk (blk_below (g := gb280) (o := .cells #[.int .i64 a0_0, .int .i64 a0_1, .int .i64 a0_2, .slice Ao18 y284.length co18, .int .i64 a0_4] 37 (0, 0)) (by (with_reducible repeat (first | refine blk_drewN ?_ _ | refine blk_drew ?_ | refine blk_alloc ?_ _)); exact BK280.out) hb); have n7_ := Aside0.mk (below_step (by repeat (first | (with_reducible first | exact HB.out | apply below_alloc | apply pw_below_drewN | apply below_drew1 | refine below_set ?_ GE278.out | refine below_set ?_ GE280.out) | exact HB.out)) hb); clear HO286; clear HO289; clear HO292; clear HO296; clear HO299; clear BK278; clear BK280; clear HB; have HO286 := n0_; have HO289 := n1_; have HO292 := n2_; have HO296 := n3_; have HO299 := n4_; have BK278 := n5_; have BK280 := n6_; have HB := n7_; clear n0_ n1_ n2_ n3_ n4_ n5_ n6_ n7_; (try clear hb); (try clear hb2); (try clear hk); (try clear hi)))
    (try simp only [Act.put, List.setIfInBounds_toArray, List.set_cons_zero, List.set_cons_succ])
    go_cut [63] (fun v63 wc => ∃ (kq : Nat) (x63_6 : Bool), v63 = .bool x63_6 ∧ Aside0 (majordomolaw03_LayoutNodes.j0 kq t287 t290 t293 x63_6 a0_0 a0_1 a0_2 l0_3 a0_4 = some r) ∧ Aside0 (kq ≤ k) ∧ Aside0 (Kd.R (Kd.int .u8) 5 wc w.heap.size (fun k_ => some k_ ≠ (v291 : Value).ownBlock) v288 t287) ∧ Aside0 (Kd.R (Kd.int .u8) 5 wc w.heap.size (fun k_ => some k_ ≠ (v288 : Value).ownBlock) v291 t290) ∧ Aside0 (Kd.R (Kd.int .i64) 3 wc w.heap.size (fun _ => True) (.slice Ao18 y284.length co18) y284) ∧ Aside0 (wc.heap[gb278]? = some (.cells #[.int .i64 a0_0, .int .i64 a0_1, .int .i64 a0_2, (.slice A0_3 l0_3.length c0_3), .int .i64 a0_4] 37 (0, 0))) ∧ Aside0 (wc.heap[gb280]? = some (.cells #[.int .i64 a0_0, .int .i64 a0_1, .int .i64 a0_2, (.slice Ao18 y284.length co18), .int .i64 a0_4] 37 (0, 0))) ∧ Aside0 (Below w.heap.size w wc))
    case first =>
      have H := HC7.out
      clear HC7
      by_cases c26 : t279 = true
      · subst c26
        have H1 : (if (strOfNums t287).toList = (strOfNums t294).toList then (if (strOfNums t290).toList = (strOfNums t297).toList then (if t293 = t300 then (majordomolaw03_LayoutNodes.j0 k t287 t290 t293 (!t301) a0_0 a0_1 a0_2 l0_3 a0_4) else (majordomolaw03_LayoutNodes.j0 k t287 t290 t293 true a0_0 a0_1 a0_2 l0_3 a0_4)) else (majordomolaw03_LayoutNodes.j0 k t287 t290 t293 true a0_0 a0_1 a0_2 l0_3 a0_4)) else (majordomolaw03_LayoutNodes.j0 k t287 t290 t293 true a0_0 a0_1 a0_2 l0_3 a0_4)) = some r := by rw [if_pos rfl] at H; exact H
        clear H
        have H := H1
        clear H1
        by_cases c27 : (strOfNums t287).toList = (strOfNums t294).toList
        · rw [if_pos c27] at H
          have c27b0 : ((strOfNums t287).toList == (strOfNums t294).toList) = true := beq_iff_eq.mpr c27
          have c27b1 : ((strOfNums t287).toList != (strOfNums t294).toList) = false := bne_eq_false_iff_eq.mpr c27
          clear c27
          (first | rw [c27b0] | (simp only [i64_w, i32_w]; rw [c27b0]) | skip)
          by_cases c28 : (strOfNums t290).toList = (strOfNums t297).toList
          · rw [if_pos c28] at H
            have c28b0 : ((strOfNums t290).toList == (strOfNums t297).toList) = true := beq_iff_eq.mpr c28
            have c28b1 : ((strOfNums t290).toList != (strOfNums t297).toList) = false := bne_eq_false_iff_eq.mpr c28
            clear c28
            by_cases c29 : t293 = t300
            · rw [if_pos c29] at H
              have c29b0 : (t293 == t300) = true := beq_iff_eq.mpr c29
              have c29b1 : (t293 != t300) = false := bne_eq_false_iff_eq.mpr c29
              clear c29
              have H' := Aside0.mk H
              clear H
              have hcv30 := own_string (P := Tryd.prog) Tryd.underlying40 Tryd.underlying5 Tryd.underlying9 (Kd.own_of_R HO289.out)
              have hcv31 := own_string (P := Tryd.prog) Tryd.underlying40 Tryd.underlying5 Tryd.underlying9 (Kd.own_of_R HO296.out)
              have hcv32 := own_string (P := Tryd.prog) Tryd.underlying40 Tryd.underlying5 Tryd.underlying9 (Kd.own_of_R HO292.out)
              have hcv33 := own_string (P := Tryd.prog) Tryd.underlying40 Tryd.underlying5 Tryd.underlying9 (Kd.own_of_R HO299.out)
              go_wp2
              go_meet
              case rel => exact ⟨_, (!t301), (by first | rfl | (simp; done) | (simp [*]; done)), H', ⟨by first | omega | exact Nat.le_refl _⟩, ⟨by (with_reducible repeat (first | apply Kd.R_alloc | apply Kd.R_drewN | apply Kd.R_drew)); exact Kd.R_mono HO289.out (fun _ hk => hk.1.1)⟩, ⟨by (with_reducible repeat (first | apply Kd.R_alloc | apply Kd.R_drewN | apply Kd.R_drew)); exact Kd.R_mono HO292.out (fun _ hk => hk.1.1)⟩, ⟨by (with_reducible repeat (first | apply Kd.R_alloc | apply Kd.R_drewN | apply Kd.R_drew)); exact HO286.out⟩, ⟨by (with_reducible repeat (first | refine blk_drewN ?_ _ | refine blk_drew ?_ | refine blk_alloc ?_ _)); exact BK278.out⟩, ⟨by (with_reducible repeat (first | refine blk_drewN ?_ _ | refine blk_drew ?_ | refine blk_alloc ?_ _)); exact BK280.out⟩, ⟨by repeat (first | (with_reducible first | exact HB.out | apply below_alloc | apply pw_below_drewN | apply below_drew1 | refine below_set ?_ GE278.out | refine below_set ?_ GE280.out) | exact HB.out)⟩⟩
            · rw [if_neg c29] at H
              have c29b0 : (t293 == t300) = false := beq_eq_false_iff_ne.mpr c29
              have c29b1 : (t293 != t300) = true := bne_iff_ne.mpr c29
              have H' := Aside0.mk H
              clear H
              have hcv34 := own_string (P := Tryd.prog) Tryd.underlying40 Tryd.underlying5 Tryd.underlying9 (Kd.own_of_R HO289.out)
              have hcv35 := own_string (P := Tryd.prog) Tryd.underlying40 Tryd.underlying5 Tryd.underlying9 (Kd.own_of_R HO296.out)
              have hcv36 := own_string (P := Tryd.prog) Tryd.underlying40 Tryd.underlying5 Tryd.underlying9 (Kd.own_of_R HO292.out)
              have hcv37 := own_string (P := Tryd.prog) Tryd.underlying40 Tryd.underlying5 Tryd.underlying9 (Kd.own_of_R HO299.out)
              go_wp2
              go_meet
              case rel => exact ⟨_, (true), (by first | rfl | (simp; done) | (simp [*]; done)), H', ⟨by first | omega | exact Nat.le_refl _⟩, ⟨by (with_reducible repeat (first | apply Kd.R_alloc | apply Kd.R_drewN | apply Kd.R_drew)); exact Kd.R_mono HO289.out (fun _ hk => hk.1.1)⟩, ⟨by (with_reducible repeat (first | apply Kd.R_alloc | apply Kd.R_drewN | apply Kd.R_drew)); exact Kd.R_mono HO292.out (fun _ hk => hk.1.1)⟩, ⟨by (with_reducible repeat (first | apply Kd.R_alloc | apply Kd.R_drewN | apply Kd.R_drew)); exact HO286.out⟩, ⟨by (with_reducible repeat (first | refine blk_drewN ?_ _ | refine blk_drew ?_ | refine blk_alloc ?_ _)); exact BK278.out⟩, ⟨by (with_reducible repeat (first | refine blk_drewN ?_ _ | refine blk_drew ?_ | refine blk_alloc ?_ _)); exact BK280.out⟩, ⟨by repeat (first | (with_reducible first | exact HB.out | apply below_alloc | apply pw_below_drewN | apply below_drew1 | refine below_set ?_ GE278.out | refine below_set ?_ GE280.out) | exact HB.out)⟩⟩
          · rw [if_neg c28] at H
            have c28b0 : ((strOfNums t290).toList == (strOfNums t297).toList) = false := beq_eq_false_iff_ne.mpr c28
            have c28b1 : ((strOfNums t290).toList != (strOfNums t297).toList) = true := bne_iff_ne.mpr c28
            have H' := Aside0.mk H
            clear H
            have hcv38 := own_string (P := Tryd.prog) Tryd.underlying40 Tryd.underlying5 Tryd.underlying9 (Kd.own_of_R HO289.out)
            have hcv39 := own_string (P := Tryd.prog) Tryd.underlying40 Tryd.underlying5 Tryd.underlying9 (Kd.own_of_R HO296.out)
            have hcv40 := own_string (P := Tryd.prog) Tryd.underlying40 Tryd.underlying5 Tryd.underlying9 (Kd.own_of_R HO292.out)
            have hcv41 := own_string (P := Tryd.prog) Tryd.underlying40 Tryd.underlying5 Tryd.underlying9 (Kd.own_of_R HO299.out)
            go_wp2
            go_meet
            case rel => exact ⟨_, (true), (by first | rfl | (simp; done) | (simp [*]; done)), H', ⟨by first | omega | exact Nat.le_refl _⟩, ⟨by (with_reducible repeat (first | apply Kd.R_alloc | apply Kd.R_drewN | apply Kd.R_drew)); exact Kd.R_mono HO289.out (fun _ hk => hk.1.1)⟩, ⟨by (with_reducible repeat (first | apply Kd.R_alloc | apply Kd.R_drewN | apply Kd.R_drew)); exact Kd.R_mono HO292.out (fun _ hk => hk.1.1)⟩, ⟨by (with_reducible repeat (first | apply Kd.R_alloc | apply Kd.R_drewN | apply Kd.R_drew)); exact HO286.out⟩, ⟨by (with_reducible repeat (first | refine blk_drewN ?_ _ | refine blk_drew ?_ | refine blk_alloc ?_ _)); exact BK278.out⟩, ⟨by (with_reducible repeat (first | refine blk_drewN ?_ _ | refine blk_drew ?_ | refine blk_alloc ?_ _)); exact BK280.out⟩, ⟨by repeat (first | (with_reducible first | exact HB.out | apply below_alloc | apply pw_below_drewN | apply below_drew1 | refine below_set ?_ GE278.out | refine below_set ?_ GE280.out) | exact HB.out)⟩⟩
        · rw [if_neg c27] at H
          have c27b0 : ((strOfNums t287).toList == (strOfNums t294).toList) = false := beq_eq_false_iff_ne.mpr c27
          have c27b1 : ((strOfNums t287).toList != (strOfNums t294).toList) = true := bne_iff_ne.mpr c27
          (first | rw [c27b0] | (simp only [i64_w, i32_w]; rw [c27b0]) | skip)
          have H' := Aside0.mk H
          clear H
          have hcv42 := own_string (P := Tryd.prog) Tryd.underlying40 Tryd.underlying5 Tryd.underlying9 (Kd.own_of_R HO289.out)
          have hcv43 := own_string (P := Tryd.prog) Tryd.underlying40 Tryd.underlying5 Tryd.underlying9 (Kd.own_of_R HO296.out)
          go_wp2
          go_meet
          case rel => exact ⟨_, (true), (by first | rfl | (simp; done) | (simp [*]; done)), H', ⟨by first | omega | exact Nat.le_refl _⟩, ⟨by (with_reducible repeat (first | apply Kd.R_alloc | apply Kd.R_drewN | apply Kd.R_drew)); exact Kd.R_mono HO289.out (fun _ hk => hk.1.1)⟩, ⟨by (with_reducible repeat (first | apply Kd.R_alloc | apply Kd.R_drewN | apply Kd.R_drew)); exact Kd.R_mono HO292.out (fun _ hk => hk.1.1)⟩, ⟨by (with_reducible repeat (first | apply Kd.R_alloc | apply Kd.R_drewN | apply Kd.R_drew)); exact HO286.out⟩, ⟨by (with_reducible repeat (first | refine blk_drewN ?_ _ | refine blk_drew ?_ | refine blk_alloc ?_ _)); exact BK278.out⟩, ⟨by (with_reducible repeat (first | refine blk_drewN ?_ _ | refine blk_drew ?_ | refine blk_alloc ?_ _)); exact BK280.out⟩, ⟨by repeat (first | (with_reducible first | exact HB.out | apply below_alloc | apply pw_below_drewN | apply below_drew1 | refine below_set ?_ GE278.out | refine below_set ?_ GE280.out) | exact HB.out)⟩⟩
      · replace c26 := Bool.eq_false_iff.mpr c26
        subst c26
        have H1 : (majordomolaw03_LayoutNodes.j0 k t287 t290 t293 true a0_0 a0_1 a0_2 l0_3 a0_4) = some r := by rw [if_neg (show ¬ (false = true) by decide)] at H; exact H
        clear H
        have H := H1
        clear H1
        have H' := Aside0.mk H
        clear H
        go_wp2
        go_meet
        case rel => exact ⟨_, (true), (by first | rfl | (simp; done) | (simp [*]; done)), H', ⟨by first | omega | exact Nat.le_refl _⟩, ⟨by (with_reducible repeat (first | apply Kd.R_alloc | apply Kd.R_drewN | apply Kd.R_drew)); exact Kd.R_mono HO289.out (fun _ hk => hk.1.1)⟩, ⟨by (with_reducible repeat (first | apply Kd.R_alloc | apply Kd.R_drewN | apply Kd.R_drew)); exact Kd.R_mono HO292.out (fun _ hk => hk.1.1)⟩, ⟨by (with_reducible repeat (first | apply Kd.R_alloc | apply Kd.R_drewN | apply Kd.R_drew)); exact HO286.out⟩, ⟨by (with_reducible repeat (first | refine blk_drewN ?_ _ | refine blk_drew ?_ | refine blk_alloc ?_ _)); exact BK278.out⟩, ⟨by (with_reducible repeat (first | refine blk_drewN ?_ _ | refine blk_drew ?_ | refine blk_alloc ?_ _)); exact BK280.out⟩, ⟨by repeat (first | (with_reducible first | exact HB.out | apply below_alloc | apply pw_below_drewN | apply below_drew1 | refine below_set ?_ GE278.out | refine below_set ?_ GE280.out) | exact HB.out)⟩⟩
    case rest =>
      clear HC7
      try clear c1
      try clear c2
      try clear p2
      try clear c3
      try clear hcv3
      try clear hcv4
      try clear c9
      try clear c11
      try clear c12
      try clear c20
      try clear c21
      try clear c25
      try clear c26
      try clear c27
      try clear c27b0
      try clear c27b1
      try clear c28
      try clear c28b0
      try clear c28b1
      try clear c29
      try clear c29b0
      try clear c29b1
      try clear hcv30
      try clear hcv31
      try clear hcv32
      try clear hcv33
      try clear hcv34
      try clear hcv35
      try clear hcv36
      try clear hcv37
      try clear hcv38
      try clear hcv39
      try clear hcv40
      try clear hcv41
      try clear hcv42
      try clear hcv43
      try clear hcz10_0
      try clear hcz10_1
      try clear hcz10_2
      try clear hcz10_3
      try clear hcz10_4
      try clear hcz13_0
      try clear hcz13_1
      try clear hcz13_2
      try clear hcz13_3
      try clear hcz13_4
      try clear hcz16_0
      try clear hcz16_1
      try clear hcz16_2
      try clear hcz16_3
      try clear hcz16_4
      try clear hcz19_0
      try clear hcz19_1
      try clear hcz19_2
      try clear hcz19_3
      try clear hcz19_4
      try clear hcz21_0
      try clear hcz21_1
      try clear hcz21_2
      try clear hcz21_3
      try clear hcz21_4
      try clear hcz23_0
      try clear hcz23_1
      try clear hcz23_2
      try clear hcz23_3
      try clear hcz23_4
      try clear hcz24_0
      try clear hcz24_1
      try clear hcz24_2
      try clear hcz24_3
      try clear hcz24_4
      try clear hfz10_0
      try clear hfz10_1
      try clear hfz10_2
      try clear hfz10_3
      try clear hfz10_4
      try clear hfz13_0
      try clear hfz13_1
      try clear hfz13_2
      try clear hfz13_3
      try clear hfz13_4
      try clear hfz16_0
      try clear hfz16_1
      try clear hfz16_2
      try clear hfz16_3
      try clear hfz16_4
      try clear hfz19_0
      try clear hfz19_1
      try clear hfz19_2
      try clear hfz19_3
      try clear hfz19_4
      try clear hfz21_0
      try clear hfz21_1
      try clear hfz21_2
      try clear hfz21_3
      try clear hfz21_4
      try clear hfz23_0
      try clear hfz23_1
      try clear hfz23_2
      try clear hfz23_3
      try clear hfz23_4
      try clear hfz24_0
      try clear hfz24_1
      try clear hfz24_2
      try clear hfz24_3
      try clear hfz24_4
      obtain ⟨kq, x63_6, rfl, HA, HJ6, HO_5, HO_6, HO_281003, BK278, BK280, HB⟩ := hcut
      cases kq with
      | zero => exact absurd HA.out (by simp [majordomolaw03_LayoutNodes.j0])
      | succ kj6 =>
        have H := HA.out
        clear HA
        simp only [majordomolaw03_LayoutNodes.j0] at H
        by_cases c44 : x63_6 = true
        · subst c44
          have H1 : (some false) = some r := by rw [if_pos rfl] at H; exact H
          clear H
          have H := H1
          clear H1
          obtain rfl := Option.some.inj H
          go_wp2
          go_ret
          exact ⟨by first | rfl | (simp [errW_none, errW_some] <;> rfl) | (simp [*, errW_none, errW_some] <;> rfl), by repeat (first | (with_reducible first | exact HB.out | apply below_alloc | apply pw_below_drewN | apply below_drew1 | refine below_set ?_ GE278.out | refine below_set ?_ GE280.out) | exact HB.out)⟩
        · replace c44 := Bool.eq_false_iff.mpr c44
          subst c44
          have H1 : (if t293 = 0 then ((layout_TakeNode.f kj6 t287).bind fun bt302 => (if bt302.2.2.2.2.2.2 = 0 then (if bt302.2.2.2.2.2.1 = (mx 0 (wrap64 ((l0_3.length : Int) - 6))) then (majordomolaw03_LayoutNodes.j1 kj6 t290 bt302.2.2.2.2.2.1 ((bt302.2.2.2.1.length : Int) != (mn 6 (l0_3.length : Int))) a0_0 a0_1 a0_2 l0_3 a0_4 bt302.1 bt302.2.1 bt302.2.2.1 bt302.2.2.2.1 bt302.2.2.2.2.1) else (majordomolaw03_LayoutNodes.j1 kj6 t290 bt302.2.2.2.2.2.1 true a0_0 a0_1 a0_2 l0_3 a0_4 bt302.1 bt302.2.1 bt302.2.2.1 bt302.2.2.2.1 bt302.2.2.2.2.1)) else (majordomolaw03_LayoutNodes.j1 kj6 t290 bt302.2.2.2.2.2.1 true a0_0 a0_1 a0_2 l0_3 a0_4 bt302.1 bt302.2.1 bt302.2.2.1 bt302.2.2.2.1 bt302.2.2.2.2.1))) else (some true)) = some r := by rw [if_neg (show ¬ (false = true) by decide)] at H; exact H
          clear H
          have H := H1
          clear H1
          by_cases c45 : t293 = 0
          · rw [if_pos c45] at H
            have c45b0 : (t293 == 0) = true := beq_iff_eq.mpr c45
            have c45b1 : (t293 != 0) = false := bne_eq_false_iff_eq.mpr c45
            clear c45
            replace H := Option.bind_eq_some_iff.mp H
            obtain ⟨⟨t302, t303, t304, t305, t308, t309, t310⟩, A460, H⟩ := H
            replace H : (if t310 = 0 then (if t309 = (mx 0 (wrap64 ((l0_3.length : Int) - 6))) then (majordomolaw03_LayoutNodes.j1 kj6 t290 t309 ((t305.length : Int) != (mn 6 (l0_3.length : Int))) a0_0 a0_1 a0_2 l0_3 a0_4 t302 t303 t304 t305 t308) else (majordomolaw03_LayoutNodes.j1 kj6 t290 t309 true a0_0 a0_1 a0_2 l0_3 a0_4 t302 t303 t304 t305 t308)) else (majordomolaw03_LayoutNodes.j1 kj6 t290 t309 true a0_0 a0_1 a0_2 l0_3 a0_4 t302 t303 t304 t305 t308)) = some r := H
            have A46 := Aside0.mk A460
            clear A460
            have HC47 := Aside0.mk H
            clear H
            obtain ⟨Ao48, co48, eo48⟩ := Kd.R_slice HO_5.out
            subst eo48
            go_upto_region 12 with (first | ((with_reducible refine gate_callee (f := 26) rfl ?_); refine goesL_ (some 68) rfl rfl Tryd.func26 (by kernel_rfl) rfl #[.slice Ao48 t287.length co48] rfl (by (try simp only [List.map_toArray, List.map_cons, List.map_nil]); first | done | rfl | (simp only [List.length_drop, List.length_take]; rfl)) ?_; (with_reducible refine (layout_TakeNode.calls kj6 _ _ t287 t302 t303 t304 t305 t308 t309 t310 _ ?side1 ?side2 ?side3 A46.out).mono ?_); (case side1 => repeat (first | exact (Kd.R_reads' HO_5.out).2.2 | (with_reducible refine Kd.C_alloc ?_ _) | (with_reducible refine Kd.C_drewN ?_ _) | (with_reducible refine Kd.C_drew ?_))); (case side2 => exact (Kd.R_reads' HO_5.out).2.1); (case side3 => first | exact Amb.below HAMB.out (by repeat (first | (with_reducible first | exact HB.out | apply below_alloc | apply pw_below_drewN | apply below_drew1 | refine below_set ?_ GE278.out | refine below_set ?_ GE280.out) | exact HB.out)) | exact Amb.drawn HAMB.out (by repeat (first | exact Drawn0.refl _ | apply Drawn0.step))); rintro e w49 ⟨v306, rfl, ho0, hb⟩; refine ⟨_, rfl, ?_⟩; have n0_ := Aside0.mk (Kd.R_below (by (with_reducible repeat (first | apply Kd.R_alloc | apply Kd.R_drewN | apply Kd.R_drew)); exact HO_5.out) hb); have n1_ := Aside0.mk (Kd.R_below (by (with_reducible repeat (first | apply Kd.R_alloc | apply Kd.R_drewN | apply Kd.R_drew)); exact HO_6.out) hb); have n2_ := Aside0.mk (Kd.R_elder' (by (with_reducible repeat (first | apply Kd.R_alloc | apply Kd.R_drewN | apply Kd.R_drew)); exact HO_281003.out) (Kd.R_base ho0) hb); have n3_ := Aside0.mk (Kd.R_lower (Kd.R_new' ho0 (Kd.R_lt (by (with_reducible repeat (first | apply Kd.R_alloc | apply Kd.R_drewN | apply Kd.R_drew)); exact HO_281003.out))) (below_size (by repeat (first | (with_reducible first | exact HB.out | apply below_alloc | apply pw_below_drewN | apply below_drew1 | refine below_set ?_ GE278.out | refine below_set ?_ GE280.out) | exact HB.out)))); have n4_ := Aside0.mk (blk_below (g := gb278) (o := .cells #[.int .i64 a0_0, .int .i64 a0_1, .int .i64 a0_2, .slice A0_3 l0_3.length c0_3, .int .i64 a0_4] 37 (0, 0)) (by (with_reducible repeat (first | refine blk_drewN ?_ _ | refine blk_drew ?_ | refine blk_alloc ?_ _)); exact BK278.out) hb); have n5_ := Aside0.mk (blk_below (g := gb280) (o := .cells #[.int .i64 a0_0, .int .i64 a0_1, .int .i64 a0_2, .slice Ao18 y284.length co18, .int .i64 a0_4] 37 (0, 0)) (by (with_reducible repeat (first | refine blk_drewN ?_ _ | refine blk_drew ?_ | refine blk_alloc ?_ _)); exact BK280.out) hb); have n6_ := Aside0.mk (below_step (by repeat (first | (with_reducible first | exact HB.out | apply below_alloc | apply pw_below_drewN | apply below_drew1 | refine below_set ?_ GE278.out | refine below_set ?_ GE280.out) | exact HB.out)) hb); clear HO_5; clear HO_6; clear HO_281003; clear BK278; clear BK280; clear HB; have HO_5 := n0_; have HO_6 := n1_; have HO_281003 := n2_; have HO307 := n3_; have BK278 := n4_; have BK280 := n5_; have HB := n6_; clear n0_ n1_ n2_ n3_ n4_ n5_ n6_; (try clear hb); (try clear hb2); (try clear hk); (try clear hi); (try clear ho0)) | ((with_reducible refine gate_dst (N := 12) rfl ?_); (try (refine gate_guard (by rfl) ?_; dsimp only)); refine box_event ?hg (N := 12) ?hd (cs := #[.int .i64 0, .int .i64 0, .int .i64 0, .slice none 0 0, .int .i64 0]) (t := 37) ?hr ?_; (case hd => rfl); (case hg => rfl); (case hr => first | (go_simp; done) | (go_simp; rfl)); intro gb311 hg w50 hbox hb; have n0_ := Aside0.mk (Kd.R_below (by (with_reducible repeat (first | apply Kd.R_alloc | apply Kd.R_drewN | apply Kd.R_drew)); exact HO_5.out) hb); have n1_ := Aside0.mk (Kd.R_below (by (with_reducible repeat (first | apply Kd.R_alloc | apply Kd.R_drewN | apply Kd.R_drew)); exact HO_6.out) hb); have n2_ := Aside0.mk (Kd.R_below (by (with_reducible repeat (first | apply Kd.R_alloc | apply Kd.R_drewN | apply Kd.R_drew)); exact HO_281003.out) hb); have n3_ := Aside0.mk (Kd.R_below (by (with_reducible repeat (first | apply Kd.R_alloc | apply Kd.R_drewN | apply Kd.R_drew)); exact HO307.out) hb); have n4_ := Aside0.mk (blk_below (g := gb278) (o := .cells #[.int .i64 a0_0, .int .i64 a0_1, .int .i64 a0_2, .slice A0_3 l0_3.length c0_3, .int .i64 a0_4] 37 (0, 0)) (by (with_reducible repeat (first | refine blk_drewN ?_ _ | refine blk_drew ?_ | refine blk_alloc ?_ _)); exact BK278.out) hb); have n5_ := Aside0.mk (blk_below (g := gb280) (o := .cells #[.int .i64 a0_0, .int .i64 a0_1, .int .i64 a0_2, .slice Ao18 y284.length co18, .int .i64 a0_4] 37 (0, 0)) (by (with_reducible repeat (first | refine blk_drewN ?_ _ | refine blk_drew ?_ | refine blk_alloc ?_ _)); exact BK280.out) hb); have n6_ := Aside0.mk (below_step (by repeat (first | (with_reducible first | exact HB.out | apply below_alloc | apply pw_below_drewN | apply below_drew1 | refine below_set ?_ GE278.out | refine below_set ?_ GE280.out) | exact HB.out)) hb); have n7_ := Aside0.mk (hbox); have n8_ := Aside0.mk ((by rw [hg]; exact (below_size (by repeat (first | (with_reducible first | exact HB.out | apply below_alloc | apply pw_below_drewN | apply below_drew1 | refine below_set ?_ GE278.out | refine below_set ?_ GE280.out) | exact HB.out))) : w.heap.size ≤ gb311)); have n9_ := Aside0.mk ((by rw [hg]; exact (below_size (by repeat (first | (with_reducible first | exact HB.out | apply below_alloc | apply pw_below_drewN | apply below_drew1 | refine below_set ?_ GE278.out | refine below_set ?_ GE280.out) | exact HB.out))) : w.heap.size ≤ gb311)); have n10_ := Aside0.mk ((by rw [hg]; exact Nat.ne_of_lt (blk_lt (g := gb278) (o := .cells #[.int .i64 a0_0, .int .i64 a0_1, .int .i64 a0_2, .slice A0_3 l0_3.length c0_3, .int .i64 a0_4] 37 (0, 0)) (by (with_reducible repeat (first | refine blk_drewN ?_ _ | refine blk_drew ?_ | refine blk_alloc ?_ _)); exact BK278.out)) : gb278 ≠ gb311)); have n11_ := Aside0.mk ((by rw [hg]; exact Nat.ne_of_gt (blk_lt (g := gb278) (o := .cells #[.int .i64 a0_0, .int .i64 a0_1, .int .i64 a0_2, .slice A0_3 l0_3.length c0_3, .int .i64 a0_4] 37 (0, 0)) (by (with_reducible repeat (first | refine blk_drewN ?_ _ | refine blk_drew ?_ | refine blk_alloc ?_ _)); exact BK278.out)) : gb311 ≠ gb278)); have n12_ := Aside0.mk ((by rw [hg]; exact Nat.ne_of_lt (blk_lt (g := gb280) (o := .cells #[.int .i64 a0_0, .int .i64 a0_1, .int .i64 a0_2, .slice Ao18 y284.length co18, .int .i64 a0_4] 37 (0, 0)) (by (with_reducible repeat (first | refine blk_drewN ?_ _ | refine blk_drew ?_ | refine blk_alloc ?_ _)); exact BK280.out)) : gb280 ≠ gb311)); have n13_ := Aside0.mk ((by rw [hg]; exact Nat.ne_of_gt (blk_lt (g := gb280) (o := .cells #[.int .i64 a0_0, .int .i64 a0_1, .int .i64 a0_2, .slice Ao18 y284.length co18, .int .i64 a0_4] 37 (0, 0)) (by (with_reducible repeat (first | refine blk_drewN ?_ _ | refine blk_drew ?_ | refine blk_alloc ?_ _)); exact BK280.out)) : gb311 ≠ gb280)); clear HO_5; clear HO_6; clear HO_281003; clear HO307; clear BK278; clear BK280; clear HB; have HO_5 := n0_; have HO_6 := n1_; have HO_281003 := n2_; have HO307 := n3_; have BK278 := n4_; have BK280 := n5_; have HB := n6_; have BK311 := n7_; have GW311 := n8_; have GE311 := n9_; have NB278_311 := n10_; have NB311_278 := n11_; have NB280_311 := n12_; have NB311_280 := n13_; clear n0_ n1_ n2_ n3_ n4_ n5_ n6_ n7_ n8_ n9_ n10_ n11_ n12_ n13_; clear hb hbox hg; have hnb51 := NB311_278.out; have hnc51 := NB278_311.out; have hnb52 := NB311_280.out; have hnc52 := NB280_311.out; have hcz53_0 : w50.cell? ⟨gb311, 0, none⟩ = some (.int .i64 0) := (blk_cell BK311.out 0).trans rfl; have hcz53_1 : w50.cell? ⟨gb311, 1, none⟩ = some (.int .i64 0) := (blk_cell BK311.out 1).trans rfl; have hcz53_2 : w50.cell? ⟨gb311, 2, none⟩ = some (.int .i64 0) := (blk_cell BK311.out 2).trans rfl; have hcz53_3 : w50.cell? ⟨gb311, 3, none⟩ = some (.slice none 0 0) := (blk_cell BK311.out 3).trans rfl; have hcz53_4 : w50.cell? ⟨gb311, 4, none⟩ = some (.int .i64 0) := (blk_cell BK311.out 4).trans rfl; have hfz53_0 := blk_frozen BK311.out 0; have hfz53_1 := blk_frozen BK311.out 1; have hfz53_2 := blk_frozen BK311.out 2; have hfz53_3 := blk_frozen BK311.out 3; have hfz53_4 := blk_frozen BK311.out 4; obtain ⟨Ao54, co54, eo54⟩ := Kd.R_slice HO307.out; subst eo54))
            (try simp only [Act.put, List.setIfInBounds_toArray, List.set_cons_zero, List.set_cons_succ])
            go_cut [92] (fun v92 wc => ∃ (kq : Nat) (x92_46 : Bool), v92 = .bool x92_46 ∧ Aside0 (majordomolaw03_LayoutNodes.j1 kq t290 t309 x92_46 a0_0 a0_1 a0_2 l0_3 a0_4 t302 t303 t304 t305 t308 = some r) ∧ Aside0 (kq ≤ kj6) ∧ Aside0 (Kd.R (Kd.int .u8) 5 wc w.heap.size (fun _ => True) v291 t290) ∧ Aside0 (Kd.R (Kd.int .i64) 3 wc w.heap.size (fun k_ => some k_ ≠ ((.slice Ao54 t305.length co54) : Value).ownBlock) (.slice Ao18 y284.length co18) y284) ∧ Aside0 (Kd.R (Kd.int .i64) 3 wc w.heap.size (fun k_ => some k_ ≠ ((.slice Ao18 y284.length co18) : Value).ownBlock) (.slice Ao54 t305.length co54) t305) ∧ Aside0 (wc.heap[gb278]? = some (.cells #[.int .i64 a0_0, .int .i64 a0_1, .int .i64 a0_2, (.slice A0_3 l0_3.length c0_3), .int .i64 a0_4] 37 (0, 0))) ∧ Aside0 (wc.heap[gb280]? = some (.cells #[.int .i64 a0_0, .int .i64 a0_1, .int .i64 a0_2, (.slice Ao18 y284.length co18), .int .i64 a0_4] 37 (0, 0))) ∧ Aside0 (wc.heap[gb311]? = some (.cells #[.int .i64 t302, .int .i64 t303, .int .i64 t304, (.slice Ao54 t305.length co54), .int .i64 t308] 37 (0, 0))) ∧ Aside0 (Below w.heap.size w wc))
            case first =>
              have H := HC47.out
              clear HC47
              by_cases c55 : t310 = 0
              · rw [if_pos c55] at H
                have c55b0 : (t310 == 0) = true := beq_iff_eq.mpr c55
                have c55b1 : (t310 != 0) = false := bne_eq_false_iff_eq.mpr c55
                clear c55
                (first | rw [c55b0] | (simp only [i64_w, i32_w]; rw [c55b0]) | skip)
                obtain ⟨ji56, hji56⟩ : ∃ j_ : Int, (mx 0 (wrap64 ((l0_3.length : Int) - 6))) = j_ := ⟨_, rfl⟩
                replace H : (if t309 = (ji56) then (majordomolaw03_LayoutNodes.j1 kj6 t290 t309 ((t305.length : Int) != (mn 6 (l0_3.length : Int))) a0_0 a0_1 a0_2 l0_3 a0_4 t302 t303 t304 t305 t308) else (majordomolaw03_LayoutNodes.j1 kj6 t290 t309 true a0_0 a0_1 a0_2 l0_3 a0_4 t302 t303 t304 t305 t308)) = some r := by first | (rw [hji56] at H; exact H) | (simp only [hji56] at H ⊢; exact H)
                have hji56_ : (if 0 < (wrap64 ((l0_3.length : Int) - 6)) then (wrap64 ((l0_3.length : Int) - 6)) else 0) = ji56 := hji56
                by_cases c57 : t309 = (ji56)
                · rw [if_pos c57] at H
                  have c57b0 : (t309 == (ji56)) = true := beq_iff_eq.mpr c57
                  have c57b1 : (t309 != (ji56)) = false := bne_eq_false_iff_eq.mpr c57
                  clear c57
                  obtain ⟨ji58, hji58⟩ : ∃ j_ : Int, (mn 6 (l0_3.length : Int)) = j_ := ⟨_, rfl⟩
                  replace H : (majordomolaw03_LayoutNodes.j1 kj6 t290 t309 ((t305.length : Int) != (ji58)) a0_0 a0_1 a0_2 l0_3 a0_4 t302 t303 t304 t305 t308) = some r := by first | (rw [hji58] at H; exact H) | (simp only [hji58] at H ⊢; exact H)
                  have hji58_ : (if (l0_3.length : Int) < 6 then (l0_3.length : Int) else 6) = ji58 := hji58
                  have H' := Aside0.mk H
                  clear H
                  have hnb59 := NB278_280.out
                  have hnc59 := NB280_278.out
                  have hnb60 := NB278_311.out
                  have hnc60 := NB311_278.out
                  have hcz61_0 : w50.cell? ⟨gb278, 0, none⟩ = some (.int .i64 a0_0) := (blk_cell BK278.out 0).trans rfl
                  have hcz61_1 : w50.cell? ⟨gb278, 1, none⟩ = some (.int .i64 a0_1) := (blk_cell BK278.out 1).trans rfl
                  have hcz61_2 : w50.cell? ⟨gb278, 2, none⟩ = some (.int .i64 a0_2) := (blk_cell BK278.out 2).trans rfl
                  have hcz61_3 : w50.cell? ⟨gb278, 3, none⟩ = some (.slice A0_3 l0_3.length c0_3) := (blk_cell BK278.out 3).trans rfl
                  have hcz61_4 : w50.cell? ⟨gb278, 4, none⟩ = some (.int .i64 a0_4) := (blk_cell BK278.out 4).trans rfl
                  have hfz61_0 := blk_frozen BK278.out 0
                  have hfz61_1 := blk_frozen BK278.out 1
                  have hfz61_2 := blk_frozen BK278.out 2
                  have hfz61_3 := blk_frozen BK278.out 3
                  have hfz61_4 := blk_frozen BK278.out 4
                  have hnb62 := NB311_280.out
                  have hnc62 := NB280_311.out
                  have hcz63_0 : w50.cell? ⟨gb311, 0, none⟩ = some (.int .i64 0) := (blk_cell BK311.out 0).trans rfl
                  have hcz63_1 : w50.cell? ⟨gb311, 1, none⟩ = some (.int .i64 0) := (blk_cell BK311.out 1).trans rfl
                  have hcz63_2 : w50.cell? ⟨gb311, 2, none⟩ = some (.int .i64 0) := (blk_cell BK311.out 2).trans rfl
                  have hcz63_3 : w50.cell? ⟨gb311, 3, none⟩ = some (.slice none 0 0) := (blk_cell BK311.out 3).trans rfl
                  have hcz63_4 : w50.cell? ⟨gb311, 4, none⟩ = some (.int .i64 0) := (blk_cell BK311.out 4).trans rfl
                  have hfz63_0 := blk_frozen BK311.out 0
                  have hfz63_1 := blk_frozen BK311.out 1
                  have hfz63_2 := blk_frozen BK311.out 2
                  have hfz63_3 := blk_frozen BK311.out 3
                  have hfz63_4 := blk_frozen BK311.out 4
                  go_wp2
                  go_meet
                  case rel => exact ⟨_, (((t305.length : Int) != (ji58))), (by first | rfl | (simp; done) | (simp only [← hji58] <;> (first | rfl | simp)) | (simp [*]; done)), H', ⟨by have := HJ6.out; first | omega | exact Nat.le_refl _⟩, ⟨by (with_reducible repeat (first | apply Kd.R_alloc | apply Kd.R_drewN | apply Kd.R_drew)); exact Kd.R_mono (Kd.R_far (p := ⟨gb311, 4, none⟩) (Kd.R_far (p := ⟨gb311, 3, none⟩) (Kd.R_far (p := ⟨gb311, 2, none⟩) (Kd.R_far (p := ⟨gb311, 1, none⟩) (Kd.R_far (p := ⟨gb311, 0, none⟩) (Kd.R_types HO_6.out BK311.out (by decide)) (fun _ hk => hk.2) (.int .i64 t302)) (fun _ hk => hk.2) (.int .i64 t303)) (fun _ hk => hk.2) (.int .i64 t304)) (fun _ hk => hk.2) (.slice Ao54 t305.length co54)) (fun _ hk => hk.2) (.int .i64 t308)) (fun _ hk => trivial)⟩, ⟨by (with_reducible repeat (first | apply Kd.R_alloc | apply Kd.R_drewN | apply Kd.R_drew)); exact Kd.R_mono (Kd.R_far (p := ⟨gb311, 4, none⟩) (Kd.R_far (p := ⟨gb311, 3, none⟩) (Kd.R_far (p := ⟨gb311, 2, none⟩) (Kd.R_far (p := ⟨gb311, 1, none⟩) (Kd.R_far (p := ⟨gb311, 0, none⟩) (Kd.R_types HO_281003.out BK311.out (by decide)) (fun _ hk => hk.2) (.int .i64 t302)) (fun _ hk => hk.2) (.int .i64 t303)) (fun _ hk => hk.2) (.int .i64 t304)) (fun _ hk => hk.2) (.slice Ao54 t305.length co54)) (fun _ hk => hk.2) (.int .i64 t308)) (fun _ hk => hk.1.2)⟩, ⟨by (with_reducible repeat (first | apply Kd.R_alloc | apply Kd.R_drewN | apply Kd.R_drew)); exact Kd.R_mono (Kd.R_far (p := ⟨gb311, 4, none⟩) (Kd.R_far (p := ⟨gb311, 3, none⟩) (Kd.R_far (p := ⟨gb311, 2, none⟩) (Kd.R_far (p := ⟨gb311, 1, none⟩) (Kd.R_far (p := ⟨gb311, 0, none⟩) (Kd.R_types HO307.out BK311.out (by decide)) (fun _ hk => hk.2) (.int .i64 t302)) (fun _ hk => hk.2) (.int .i64 t303)) (fun _ hk => hk.2) (.int .i64 t304)) (fun _ hk => hk.2) (.slice Ao54 t305.length co54)) (fun _ hk => hk.2) (.int .i64 t308)) (fun _ hk => hk.1.2)⟩, ⟨by (with_reducible repeat (first | refine blk_drewN ?_ _ | refine blk_drew ?_ | refine blk_alloc ?_ _)); refine blk_far ?_ NB278_311.out _; (with_reducible repeat (first | refine blk_drewN ?_ _ | refine blk_drew ?_ | refine blk_alloc ?_ _)); refine blk_far ?_ NB278_311.out _; (with_reducible repeat (first | refine blk_drewN ?_ _ | refine blk_drew ?_ | refine blk_alloc ?_ _)); refine blk_far ?_ NB278_311.out _; (with_reducible repeat (first | refine blk_drewN ?_ _ | refine blk_drew ?_ | refine blk_alloc ?_ _)); refine blk_far ?_ NB278_311.out _; (with_reducible repeat (first | refine blk_drewN ?_ _ | refine blk_drew ?_ | refine blk_alloc ?_ _)); refine blk_far ?_ NB278_311.out _; (with_reducible repeat (first | refine blk_drewN ?_ _ | refine blk_drew ?_ | refine blk_alloc ?_ _)); exact BK278.out⟩, ⟨by (with_reducible repeat (first | refine blk_drewN ?_ _ | refine blk_drew ?_ | refine blk_alloc ?_ _)); refine blk_far ?_ NB280_311.out _; (with_reducible repeat (first | refine blk_drewN ?_ _ | refine blk_drew ?_ | refine blk_alloc ?_ _)); refine blk_far ?_ NB280_311.out _; (with_reducible repeat (first | refine blk_drewN ?_ _ | refine blk_drew ?_ | refine blk_alloc ?_ _)); refine blk_far ?_ NB280_311.out _; (with_reducible repeat (first | refine blk_drewN ?_ _ | refine blk_drew ?_ | refine blk_alloc ?_ _)); refine blk_far ?_ NB280_311.out _; (with_reducible repeat (first | refine blk_drewN ?_ _ | refine blk_drew ?_ | refine blk_alloc ?_ _)); refine blk_far ?_ NB280_311.out _; (with_reducible repeat (first | refine blk_drewN ?_ _ | refine blk_drew ?_ | refine blk_alloc ?_ _)); exact BK280.out⟩, ⟨by (with_reducible repeat (first | refine blk_drewN ?_ _ | refine blk_drew ?_ | refine blk_alloc ?_ _)); refine blk_put (cs := #[.int .i64 t302, .int .i64 t303, .int .i64 t304, .slice Ao54 t305.length co54, .int .i64 0]) ?_ 4 _ rfl; (with_reducible repeat (first | refine blk_drewN ?_ _ | refine blk_drew ?_ | refine blk_alloc ?_ _)); refine blk_put (cs := #[.int .i64 t302, .int .i64 t303, .int .i64 t304, .slice none 0 0, .int .i64 0]) ?_ 3 _ rfl; (with_reducible repeat (first | refine blk_drewN ?_ _ | refine blk_drew ?_ | refine blk_alloc ?_ _)); refine blk_put (cs := #[.int .i64 t302, .int .i64 t303, .int .i64 0, .slice none 0 0, .int .i64 0]) ?_ 2 _ rfl; (with_reducible repeat (first | refine blk_drewN ?_ _ | refine blk_drew ?_ | refine blk_alloc ?_ _)); refine blk_put (cs := #[.int .i64 t302, .int .i64 0, .int .i64 0, .slice none 0 0, .int .i64 0]) ?_ 1 _ rfl; (with_reducible repeat (first | refine blk_drewN ?_ _ | refine blk_drew ?_ | refine blk_alloc ?_ _)); refine blk_put (cs := #[.int .i64 0, .int .i64 0, .int .i64 0, .slice none 0 0, .int .i64 0]) ?_ 0 _ rfl; (with_reducible repeat (first | refine blk_drewN ?_ _ | refine blk_drew ?_ | refine blk_alloc ?_ _)); exact BK311.out⟩, ⟨by repeat (first | (with_reducible first | exact HB.out | apply below_alloc | apply pw_below_drewN | apply below_drew1 | refine below_set ?_ GE278.out | refine below_set ?_ GE280.out | refine below_set ?_ GE311.out) | exact HB.out)⟩⟩
                · rw [if_neg c57] at H
                  have c57b0 : (t309 == (ji56)) = false := beq_eq_false_iff_ne.mpr c57
                  have c57b1 : (t309 != (ji56)) = true := bne_iff_ne.mpr c57
                  have H' := Aside0.mk H
                  clear H
                  have hnb64 := NB278_280.out
                  have hnc64 := NB280_278.out
                  have hnb65 := NB278_311.out
                  have hnc65 := NB311_278.out
                  have hcz66_0 : w50.cell? ⟨gb278, 0, none⟩ = some (.int .i64 a0_0) := (blk_cell BK278.out 0).trans rfl
                  have hcz66_1 : w50.cell? ⟨gb278, 1, none⟩ = some (.int .i64 a0_1) := (blk_cell BK278.out 1).trans rfl
                  have hcz66_2 : w50.cell? ⟨gb278, 2, none⟩ = some (.int .i64 a0_2) := (blk_cell BK278.out 2).trans rfl
                  have hcz66_3 : w50.cell? ⟨gb278, 3, none⟩ = some (.slice A0_3 l0_3.length c0_3) := (blk_cell BK278.out 3).trans rfl
                  have hcz66_4 : w50.cell? ⟨gb278, 4, none⟩ = some (.int .i64 a0_4) := (blk_cell BK278.out 4).trans rfl
                  have hfz66_0 := blk_frozen BK278.out 0
                  have hfz66_1 := blk_frozen BK278.out 1
                  have hfz66_2 := blk_frozen BK278.out 2
                  have hfz66_3 := blk_frozen BK278.out 3
                  have hfz66_4 := blk_frozen BK278.out 4
                  go_wp2
                  go_meet
                  case rel => exact ⟨_, (true), (by first | rfl | (simp; done) | (simp [*]; done)), H', ⟨by have := HJ6.out; first | omega | exact Nat.le_refl _⟩, ⟨by (with_reducible repeat (first | apply Kd.R_alloc | apply Kd.R_drewN | apply Kd.R_drew)); exact Kd.R_mono (Kd.R_far (p := ⟨gb311, 4, none⟩) (Kd.R_far (p := ⟨gb311, 3, none⟩) (Kd.R_far (p := ⟨gb311, 2, none⟩) (Kd.R_far (p := ⟨gb311, 1, none⟩) (Kd.R_far (p := ⟨gb311, 0, none⟩) (Kd.R_types HO_6.out BK311.out (by decide)) (fun _ hk => hk.2) (.int .i64 t302)) (fun _ hk => hk.2) (.int .i64 t303)) (fun _ hk => hk.2) (.int .i64 t304)) (fun _ hk => hk.2) (.slice Ao54 t305.length co54)) (fun _ hk => hk.2) (.int .i64 t308)) (fun _ hk => trivial)⟩, ⟨by (with_reducible repeat (first | apply Kd.R_alloc | apply Kd.R_drewN | apply Kd.R_drew)); exact Kd.R_mono (Kd.R_far (p := ⟨gb311, 4, none⟩) (Kd.R_far (p := ⟨gb311, 3, none⟩) (Kd.R_far (p := ⟨gb311, 2, none⟩) (Kd.R_far (p := ⟨gb311, 1, none⟩) (Kd.R_far (p := ⟨gb311, 0, none⟩) (Kd.R_types HO_281003.out BK311.out (by decide)) (fun _ hk => hk.2) (.int .i64 t302)) (fun _ hk => hk.2) (.int .i64 t303)) (fun _ hk => hk.2) (.int .i64 t304)) (fun _ hk => hk.2) (.slice Ao54 t305.length co54)) (fun _ hk => hk.2) (.int .i64 t308)) (fun _ hk => hk.1.2)⟩, ⟨by (with_reducible repeat (first | apply Kd.R_alloc | apply Kd.R_drewN | apply Kd.R_drew)); exact Kd.R_mono (Kd.R_far (p := ⟨gb311, 4, none⟩) (Kd.R_far (p := ⟨gb311, 3, none⟩) (Kd.R_far (p := ⟨gb311, 2, none⟩) (Kd.R_far (p := ⟨gb311, 1, none⟩) (Kd.R_far (p := ⟨gb311, 0, none⟩) (Kd.R_types HO307.out BK311.out (by decide)) (fun _ hk => hk.2) (.int .i64 t302)) (fun _ hk => hk.2) (.int .i64 t303)) (fun _ hk => hk.2) (.int .i64 t304)) (fun _ hk => hk.2) (.slice Ao54 t305.length co54)) (fun _ hk => hk.2) (.int .i64 t308)) (fun _ hk => hk.1.2)⟩, ⟨by (with_reducible repeat (first | refine blk_drewN ?_ _ | refine blk_drew ?_ | refine blk_alloc ?_ _)); refine blk_far ?_ NB278_311.out _; (with_reducible repeat (first | refine blk_drewN ?_ _ | refine blk_drew ?_ | refine blk_alloc ?_ _)); refine blk_far ?_ NB278_311.out _; (with_reducible repeat (first | refine blk_drewN ?_ _ | refine blk_drew ?_ | refine blk_alloc ?_ _)); refine blk_far ?_ NB278_311.out _; (with_reducible repeat (first | refine blk_drewN ?_ _ | refine blk_drew ?_ | refine blk_alloc ?_ _)); refine blk_far ?_ NB278_311.out _; (with_reducible repeat (first | refine blk_drewN ?_ _ | refine blk_drew ?_ | refine blk_alloc ?_ _)); refine blk_far ?_ NB278_311.out _; (with_reducible repeat (first | refine blk_drewN ?_ _ | refine blk_drew ?_ | refine blk_alloc ?_ _)); exact BK278.out⟩, ⟨by (with_reducible repeat (first | refine blk_drewN ?_ _ | refine blk_drew ?_ | refine blk_alloc ?_ _)); refine blk_far ?_ NB280_311.out _; (with_reducible repeat (first | refine blk_drewN ?_ _ | refine blk_drew ?_ | refine blk_alloc ?_ _)); refine blk_far ?_ NB280_311.out _; (with_reducible repeat (first | refine blk_drewN ?_ _ | refine blk_drew ?_ | refine blk_alloc ?_ _)); refine blk_far ?_ NB280_311.out _; (with_reducible repeat (first | refine blk_drewN ?_ _ | refine blk_drew ?_ | refine blk_alloc ?_ _)); refine blk_far ?_ NB280_311.out _; (with_reducible repeat (first | refine blk_drewN ?_ _ | refine blk_drew ?_ | refine blk_alloc ?_ _)); refine blk_far ?_ NB280_311.out _; (with_reducible repeat (first | refine blk_drewN ?_ _ | refine blk_drew ?_ | refine blk_alloc ?_ _)); exact BK280.out⟩, ⟨by (with_reducible repeat (first | refine blk_drewN ?_ _ | refine blk_drew ?_ | refine blk_alloc ?_ _)); refine blk_put (cs := #[.int .i64 t302, .int .i64 t303, .int .i64 t304, .slice Ao54 t305.length co54, .int .i64 0]) ?_ 4 _ rfl; (with_reducible repeat (first | refine blk_drewN ?_ _ | refine blk_drew ?_ | refine blk_alloc ?_ _)); refine blk_put (cs := #[.int .i64 t302, .int .i64 t303, .int .i64 t304, .slice none 0 0, .int .i64 0]) ?_ 3 _ rfl; (with_reducible repeat (first | refine blk_drewN ?_ _ | refine blk_drew ?_ | refine blk_alloc ?_ _)); refine blk_put (cs := #[.int .i64 t302, .int .i64 t303, .int .i64 0, .slice none 0 0, .int .i64 0]) ?_ 2 _ rfl; (with_reducible repeat (first | refine blk_drewN ?_ _ | refine blk_drew ?_ | refine blk_alloc ?_ _)); refine blk_put (cs := #[.int .i64 t302, .int .i64 0, .int .i64 0, .slice none 0 0, .int .i64 0]) ?_ 1 _ rfl; (with_reducible repeat (first | refine blk_drewN ?_ _ | refine blk_drew ?_ | refine blk_alloc ?_ _)); refine blk_put (cs := #[.int .i64 0, .int .i64 0, .int .i64 0, .slice none 0 0, .int .i64 0]) ?_ 0 _ rfl; (with_reducible repeat (first | refine blk_drewN ?_ _ | refine blk_drew ?_ | refine blk_alloc ?_ _)); exact BK311.out⟩, ⟨by repeat (first | (with_reducible first | exact HB.out | apply below_alloc | apply pw_below_drewN | apply below_drew1 | refine below_set ?_ GE278.out | refine below_set ?_ GE280.out | refine below_set ?_ GE311.out) | exact HB.out)⟩⟩
              · rw [if_neg c55] at H
                have c55b0 : (t310 == 0) = false := beq_eq_false_iff_ne.mpr c55
                have c55b1 : (t310 != 0) = true := bne_iff_ne.mpr c55
                (first | rw [c55b0] | (simp only [i64_w, i32_w]; rw [c55b0]) | skip)
                have H' := Aside0.mk H
                clear H
                go_wp2
                go_meet
                case rel => exact ⟨_, (true), (by first | rfl | (simp; done) | (simp [*]; done)), H', ⟨by have := HJ6.out; first | omega | exact Nat.le_refl _⟩, ⟨by (with_reducible repeat (first | apply Kd.R_alloc | apply Kd.R_drewN | apply Kd.R_drew)); exact Kd.R_mono (Kd.R_far (p := ⟨gb311, 4, none⟩) (Kd.R_far (p := ⟨gb311, 3, none⟩) (Kd.R_far (p := ⟨gb311, 2, none⟩) (Kd.R_far (p := ⟨gb311, 1, none⟩) (Kd.R_far (p := ⟨gb311, 0, none⟩) (Kd.R_types HO_6.out BK311.out (by decide)) (fun _ hk => hk.2) (.int .i64 t302)) (fun _ hk => hk.2) (.int .i64 t303)) (fun _ hk => hk.2) (.int .i64 t304)) (fun _ hk => hk.2) (.slice Ao54 t305.length co54)) (fun _ hk => hk.2) (.int .i64 t308)) (fun _ hk => trivial)⟩, ⟨by (with_reducible repeat (first | apply Kd.R_alloc | apply Kd.R_drewN | apply Kd.R_drew)); exact Kd.R_mono (Kd.R_far (p := ⟨gb311, 4, none⟩) (Kd.R_far (p := ⟨gb311, 3, none⟩) (Kd.R_far (p := ⟨gb311, 2, none⟩) (Kd.R_far (p := ⟨gb311, 1, none⟩) (Kd.R_far (p := ⟨gb311, 0, none⟩) (Kd.R_types HO_281003.out BK311.out (by decide)) (fun _ hk => hk.2) (.int .i64 t302)) (fun _ hk => hk.2) (.int .i64 t303)) (fun _ hk => hk.2) (.int .i64 t304)) (fun _ hk => hk.2) (.slice Ao54 t305.length co54)) (fun _ hk => hk.2) (.int .i64 t308)) (fun _ hk => hk.1.2)⟩, ⟨by (with_reducible repeat (first | apply Kd.R_alloc | apply Kd.R_drewN | apply Kd.R_drew)); exact Kd.R_mono (Kd.R_far (p := ⟨gb311, 4, none⟩) (Kd.R_far (p := ⟨gb311, 3, none⟩) (Kd.R_far (p := ⟨gb311, 2, none⟩) (Kd.R_far (p := ⟨gb311, 1, none⟩) (Kd.R_far (p := ⟨gb311, 0, none⟩) (Kd.R_types HO307.out BK311.out (by decide)) (fun _ hk => hk.2) (.int .i64 t302)) (fun _ hk => hk.2) (.int .i64 t303)) (fun _ hk => hk.2) (.int .i64 t304)) (fun _ hk => hk.2) (.slice Ao54 t305.length co54)) (fun _ hk => hk.2) (.int .i64 t308)) (fun _ hk => hk.1.2)⟩, ⟨by (with_reducible repeat (first | refine blk_drewN ?_ _ | refine blk_drew ?_ | refine blk_alloc ?_ _)); refine blk_far ?_ NB278_311.out _; (with_reducible repeat (first | refine blk_drewN ?_ _ | refine blk_drew ?_ | refine blk_alloc ?_ _)); refine blk_far ?_ NB278_311.out _; (with_reducible repeat (first | refine blk_drewN ?_ _ | refine blk_drew ?_ | refine blk_alloc ?_ _)); refine blk_far ?_ NB278_311.out _; (with_reducible repeat (first | refine blk_drewN ?_ _ | refine blk_drew ?_ | refine blk_alloc ?_ _)); refine blk_far ?_ NB278_311.out _; (with_reducible repeat (first | refine blk_drewN ?_ _ | refine blk_drew ?_ | refine blk_alloc ?_ _)); refine blk_far ?_ NB278_311.out _; (with_reducible repeat (first | refine blk_drewN ?_ _ | refine blk_drew ?_ | refine blk_alloc ?_ _)); exact BK278.out⟩, ⟨by (with_reducible repeat (first | refine blk_drewN ?_ _ | refine blk_drew ?_ | refine blk_alloc ?_ _)); refine blk_far ?_ NB280_311.out _; (with_reducible repeat (first | refine blk_drewN ?_ _ | refine blk_drew ?_ | refine blk_alloc ?_ _)); refine blk_far ?_ NB280_311.out _; (with_reducible repeat (first | refine blk_drewN ?_ _ | refine blk_drew ?_ | refine blk_alloc ?_ _)); refine blk_far ?_ NB280_311.out _; (with_reducible repeat (first | refine blk_drewN ?_ _ | refine blk_drew ?_ | refine blk_alloc ?_ _)); refine blk_far ?_ NB280_311.out _; (with_reducible repeat (first | refine blk_drewN ?_ _ | refine blk_drew ?_ | refine blk_alloc ?_ _)); refine blk_far ?_ NB280_311.out _; (with_reducible repeat (first | refine blk_drewN ?_ _ | refine blk_drew ?_ | refine blk_alloc ?_ _)); exact BK280.out⟩, ⟨by (with_reducible repeat (first | refine blk_drewN ?_ _ | refine blk_drew ?_ | refine blk_alloc ?_ _)); refine blk_put (cs := #[.int .i64 t302, .int .i64 t303, .int .i64 t304, .slice Ao54 t305.length co54, .int .i64 0]) ?_ 4 _ rfl; (with_reducible repeat (first | refine blk_drewN ?_ _ | refine blk_drew ?_ | refine blk_alloc ?_ _)); refine blk_put (cs := #[.int .i64 t302, .int .i64 t303, .int .i64 t304, .slice none 0 0, .int .i64 0]) ?_ 3 _ rfl; (with_reducible repeat (first | refine blk_drewN ?_ _ | refine blk_drew ?_ | refine blk_alloc ?_ _)); refine blk_put (cs := #[.int .i64 t302, .int .i64 t303, .int .i64 0, .slice none 0 0, .int .i64 0]) ?_ 2 _ rfl; (with_reducible repeat (first | refine blk_drewN ?_ _ | refine blk_drew ?_ | refine blk_alloc ?_ _)); refine blk_put (cs := #[.int .i64 t302, .int .i64 0, .int .i64 0, .slice none 0 0, .int .i64 0]) ?_ 1 _ rfl; (with_reducible repeat (first | refine blk_drewN ?_ _ | refine blk_drew ?_ | refine blk_alloc ?_ _)); refine blk_put (cs := #[.int .i64 0, .int .i64 0, .int .i64 0, .slice none 0 0, .int .i64 0]) ?_ 0 _ rfl; (with_reducible repeat (first | refine blk_drewN ?_ _ | refine blk_drew ?_ | refine blk_alloc ?_ _)); exact BK311.out⟩, ⟨by repeat (first | (with_reducible first | exact HB.out | apply below_alloc | apply pw_below_drewN | apply below_drew1 | refine below_set ?_ GE278.out | refine below_set ?_ GE280.out | refine below_set ?_ GE311.out) | exact HB.out)⟩⟩
            case rest =>
              clear HC47
              try clear c1
              try clear c2
              try clear p2
              try clear c3
              try clear hcv3
              try clear c4
              try clear hcv4
              try clear c5
              try clear c6
              try clear p6
              try clear c9
              try clear c11
              try clear c12
              try clear c20
              try clear c21
              try clear c25
              try clear c26
              try clear c27
              try clear c27b0
              try clear c27b1
              try clear c28
              try clear c28b0
              try clear c28b1
              try clear c29
              try clear c29b0
              try clear c29b1
              try clear hcv30
              try clear hcv31
              try clear hcv32
              try clear hcv33
              try clear hcv34
              try clear hcv35
              try clear hcv36
              try clear hcv37
              try clear hcv38
              try clear hcv39
              try clear hcv40
              try clear hcv41
              try clear hcv42
              try clear hcv43
              try clear c44
              try clear c45
              try clear c45b0
              try clear c45b1
              try clear c51
              try clear c52
              try clear c55
              try clear c55b0
              try clear c55b1
              try clear c57
              try clear c57b0
              try clear c57b1
              try clear c59
              try clear c60
              try clear c62
              try clear c64
              try clear p64
              try clear c65
              try clear hcz10_0
              try clear hcz10_1
              try clear hcz10_2
              try clear hcz10_3
              try clear hcz10_4
              try clear hcz13_0
              try clear hcz13_1
              try clear hcz13_2
              try clear hcz13_3
              try clear hcz13_4
              try clear hcz16_0
              try clear hcz16_1
              try clear hcz16_2
              try clear hcz16_3
              try clear hcz16_4
              try clear hcz19_0
              try clear hcz19_1
              try clear hcz19_2
              try clear hcz19_3
              try clear hcz19_4
              try clear hcz21_0
              try clear hcz21_1
              try clear hcz21_2
              try clear hcz21_3
              try clear hcz21_4
              try clear hcz23_0
              try clear hcz23_1
              try clear hcz23_2
              try clear hcz23_3
              try clear hcz23_4
              try clear hcz24_0
              try clear hcz24_1
              try clear hcz24_2
              try clear hcz24_3
              try clear hcz24_4
              try clear hcz53_0
              try clear hcz53_1
              try clear hcz53_2
              try clear hcz53_3
              try clear hcz53_4
              try clear hcz61_0
              try clear hcz61_1
              try clear hcz61_2
              try clear hcz61_3
              try clear hcz61_4
              try clear hcz63_0
              try clear hcz63_1
              try clear hcz63_2
              try clear hcz63_3
              try clear hcz63_4
              try clear hcz66_0
              try clear hcz66_1
              try clear hcz66_2
              try clear hcz66_3
              try clear hcz66_4
              try clear hfz10_0
              try clear hfz10_1
              try clear hfz10_2
              try clear hfz10_3
              try clear hfz10_4
              try clear hfz13_0
              try clear hfz13_1
              try clear hfz13_2
              try clear hfz13_3
              try clear hfz13_4
              try clear hfz16_0
              try clear hfz16_1
              try clear hfz16_2
              try clear hfz16_3
              try clear hfz16_4
              try clear hfz19_0
              try clear hfz19_1
              try clear hfz19_2
              try clear hfz19_3
              try clear hfz19_4
              try clear hfz21_0
              try clear hfz21_1
              try clear hfz21_2
              try clear hfz21_3
              try clear hfz21_4
              try clear hfz23_0
              try clear hfz23_1
              try clear hfz23_2
              try clear hfz23_3
              try clear hfz23_4
              try clear hfz24_0
              try clear hfz24_1
              try clear hfz24_2
              try clear hfz24_3
              try clear hfz24_4
              try clear hfz53_0
              try clear hfz53_1
              try clear hfz53_2
              try clear hfz53_3
              try clear hfz53_4
              try clear hfz61_0
              try clear hfz61_1
              try clear hfz61_2
              try clear hfz61_3
              try clear hfz61_4
              try clear hfz63_0
              try clear hfz63_1
              try clear hfz63_2
              try clear hfz63_3
              try clear hfz63_4
              try clear hfz66_0
              try clear hfz66_1
              try clear hfz66_2
              try clear hfz66_3
              try clear hfz66_4
              try clear p2
              obtain ⟨kq, x92_46, rfl, HA, HJ46, HO_6, HO_281003, HO_312003, BK278, BK280, BK311, HB⟩ := hcut
              cases kq with
              | zero => exact absurd HA.out (by simp [majordomolaw03_LayoutNodes.j1])
              | succ kj46 =>
                have H := HA.out
                clear HA
                simp only [majordomolaw03_LayoutNodes.j1] at H
                by_cases c67 : x92_46 = true
                · subst c67
                  have H1 : (some false) = some r := by rw [if_pos rfl] at H; exact H
                  clear H
                  have H := H1
                  clear H1
                  obtain rfl := Option.some.inj H
                  go_wp2
                  go_ret
                  exact ⟨by first | rfl | (simp [errW_none, errW_some] <;> rfl) | (simp [*, errW_none, errW_some] <;> rfl), by repeat (first | (with_reducible first | exact HB.out | apply below_alloc | apply pw_below_drewN | apply below_drew1 | refine below_set ?_ GE278.out | refine below_set ?_ GE280.out | refine below_set ?_ GE311.out) | exact HB.out)⟩
                · replace c67 := Bool.eq_false_iff.mpr c67
                  subst c67
                  have H1 : (if t309 > 0 then ((layout_TakeMore.f kj46 t290 t309).bind fun bt312 => (if bt312.2 = 0 then (if t305.length + bt312.1.length < 17592186044416 then ((majordomolaw03_same.f kj46 t302 t303 t304 (t305 ++ bt312.1) t308 a0_0 a0_1 a0_2 l0_3 a0_4).bind fun t319 => (some t319)) else (none)) else (some false))) else ((majordomolaw03_same.f kj46 t302 t303 t304 t305 t308 a0_0 a0_1 a0_2 l0_3 a0_4).bind fun t320 => (some t320))) = some r := by rw [if_neg (show ¬ (false = true) by decide)] at H; exact H
                  clear H
                  have H := H1
                  clear H1
                  by_cases c68 : t309 > 0
                  · rw [if_pos c68] at H
                    have c68b0 : decide (0 < t309) = true := decide_eq_true c68
                    clear c68
                    replace H := Option.bind_eq_some_iff.mp H
                    obtain ⟨⟨t312, t313⟩, A690, H⟩ := H
                    replace H : (if t313 = 0 then (if t305.length + t312.length < 17592186044416 then ((majordomolaw03_same.f kj46 t302 t303 t304 (t305 ++ t312) t308 a0_0 a0_1 a0_2 l0_3 a0_4).bind fun t319 => (some t319)) else (none)) else (some false)) = some r := H
                    have A69 := Aside0.mk A690
                    clear A690
                    by_cases c70 : t313 = 0
                    · rw [if_pos c70] at H
                      have c70b0 : (t313 == 0) = true := beq_iff_eq.mpr c70
                      have c70b1 : (t313 != 0) = false := bne_eq_false_iff_eq.mpr c70
                      clear c70
                      by_cases c71 : t305.length + t312.length < 17592186044416
                      · rw [if_pos c71] at H
                        have LMc71 := Aside0.mk c71
                        clear c71
                        obtain ⟨y316, hy316⟩ : ∃ y_ : List Int, y_ = (t305 ++ t312) := ⟨_, rfl⟩
                        replace H : ((majordomolaw03_same.f kj46 t302 t303 t304 y316 t308 a0_0 a0_1 a0_2 l0_3 a0_4).bind fun t319 => (some t319)) = some r := by first | (rw [hy316]; with_reducible exact H) | (have H2_ := (Option.bind_some _ _).symm.trans H; rw [hy316]; with_reducible exact H2_) | (have H2_ := (Option.bind_some _ _).symm.trans H; with_reducible exact H2_) | with_reducible exact H | (rw [hy316]; exact H) | exact H
                        have Ny316 := Aside0.mk hy316
                        clear hy316
                        replace H := Option.bind_eq_some_iff.mp H
                        obtain ⟨t319, A720, H⟩ := H
                        replace H : (some t319) = some r := H
                        have A72 := Aside0.mk A720
                        clear A720
                        obtain rfl := Option.some.inj H
                        obtain ⟨Ao73, co73, eo73⟩ := Kd.R_slice HO_6.out
                        subst eo73
                        go_wp2_with (first | ((with_reducible refine gate_callee (f := 27) rfl ?_); refine goesL_ (some 98) rfl rfl Tryd.func27 (by kernel_rfl) rfl #[.slice Ao73 t290.length co73, .int .i64 t309] rfl (by (try simp only [List.map_toArray, List.map_cons, List.map_nil]); first | done | rfl | (simp only [List.length_drop, List.length_take]; rfl)) ?_; (with_reducible refine (layout_TakeMore.calls kj46 _ _ t290 t309 t312 t313 _ ?side1 ?side2 A69.out).mono ?_); (case side1 => repeat (first | exact (Kd.R_reads' HO_6.out).2.2 | (with_reducible refine Kd.C_alloc ?_ _) | (with_reducible refine Kd.C_drewN ?_ _) | (with_reducible refine Kd.C_drew ?_))); (case side2 => exact (Kd.R_reads' HO_6.out).2.1); rintro e w74 ⟨v314, rfl, ho0, hb⟩; refine ⟨_, rfl, ?_⟩; have n0_ := Aside0.mk (Kd.R_below (by (with_reducible repeat (first | apply Kd.R_alloc | apply Kd.R_drewN | apply Kd.R_drew)); exact HO_6.out) hb); have n1_ := Aside0.mk (Kd.R_elder' (by (with_reducible repeat (first | apply Kd.R_alloc | apply Kd.R_drewN | apply Kd.R_drew)); exact HO_281003.out) (Kd.R_base ho0) hb); have n2_ := Aside0.mk (Kd.R_elder' (by (with_reducible repeat (first | apply Kd.R_alloc | apply Kd.R_drewN | apply Kd.R_drew)); exact HO_312003.out) (Kd.R_base ho0) hb); have n3_ := Aside0.mk (Kd.R_lower (Kd.R_new' (Kd.R_new' ho0 (Kd.R_lt (by (with_reducible repeat (first | apply Kd.R_alloc | apply Kd.R_drewN | apply Kd.R_drew)); exact HO_281003.out))) (Kd.R_lt (by (with_reducible repeat (first | apply Kd.R_alloc | apply Kd.R_drewN | apply Kd.R_drew)); exact HO_312003.out))) (below_size (by repeat (first | (with_reducible first | exact HB.out | apply below_alloc | apply pw_below_drewN | apply below_drew1 | refine below_set ?_ GE278.out | refine below_set ?_ GE280.out | refine below_set ?_ GE311.out) | exact HB.out)))); have n4_ := Aside0.mk (blk_below (g := gb278) (o := .cells #[.int .i64 a0_0, .int .i64 a0_1, .int .i64 a0_2, .slice A0_3 l0_3.length c0_3, .int .i64 a0_4] 37 (0, 0)) (by (with_reducible repeat (first | refine blk_drewN ?_ _ | refine blk_drew ?_ | refine blk_alloc ?_ _)); exact BK278.out) hb); have n5_ := Aside0.mk (blk_below (g := gb280) (o := .cells #[.int .i64 a0_0, .int .i64 a0_1, .int .i64 a0_2, .slice Ao18 y284.length co18, .int .i64 a0_4] 37 (0, 0)) (by (with_reducible repeat (first | refine blk_drewN ?_ _ | refine blk_drew ?_ | refine blk_alloc ?_ _)); exact BK280.out) hb); have n6_ := Aside0.mk (blk_below (g := gb311) (o := .cells #[.int .i64 t302, .int .i64 t303, .int .i64 t304, .slice Ao54 t305.length co54, .int .i64 t308] 37 (0, 0)) (by (with_reducible repeat (first | refine blk_drewN ?_ _ | refine blk_drew ?_ | refine blk_alloc ?_ _)); exact BK311.out) hb); have n7_ := Aside0.mk (below_step (by repeat (first | (with_reducible first | exact HB.out | apply below_alloc | apply pw_below_drewN | apply below_drew1 | refine below_set ?_ GE278.out | refine below_set ?_ GE280.out | refine below_set ?_ GE311.out) | exact HB.out)) hb); clear HO_6; clear HO_281003; clear HO_312003; clear BK278; clear BK280; clear BK311; clear HB; have HO_6 := n0_; have HO_281003 := n1_; have HO_312003 := n2_; have HO315 := n3_; have BK278 := n4_; have BK280 := n5_; have BK311 := n6_; have HB := n7_; clear n0_ n1_ n2_ n3_ n4_ n5_ n6_ n7_; (try clear hb); (try clear hb2); (try clear hk); (try clear hi); (try clear ho0); have hnb75 := NB311_278.out; have hnc75 := NB278_311.out; have hnb76 := NB311_280.out; have hnc76 := NB280_311.out; have hcz77_0 : w74.cell? ⟨gb311, 0, none⟩ = some (.int .i64 t302) := (blk_cell BK311.out 0).trans rfl; have hcz77_1 : w74.cell? ⟨gb311, 1, none⟩ = some (.int .i64 t303) := (blk_cell BK311.out 1).trans rfl; have hcz77_2 : w74.cell? ⟨gb311, 2, none⟩ = some (.int .i64 t304) := (blk_cell BK311.out 2).trans rfl; have hcz77_3 : w74.cell? ⟨gb311, 3, none⟩ = some (.slice Ao54 t305.length co54) := (blk_cell BK311.out 3).trans rfl; have hcz77_4 : w74.cell? ⟨gb311, 4, none⟩ = some (.int .i64 t308) := (blk_cell BK311.out 4).trans rfl; have hfz77_0 := blk_frozen BK311.out 0; have hfz77_1 := blk_frozen BK311.out 1; have hfz77_2 := blk_frozen BK311.out 2; have hfz77_3 := blk_frozen BK311.out 3; have hfz77_4 := blk_frozen BK311.out 4; obtain ⟨Ao79, co79, eo79⟩ := Kd.R_slice HO315.out; subst eo79) | ((with_reducible refine gate_builtin (b := .append) (xs := #[.tmp 104, .tmp 105]) rfl ?_); (try (refine gate_guard (by rfl) ?_; dsimp only)); at_builtin; refine Kd.R_append_rows (Kd.int .i64) (w0 := w) w.heap.size rfl (.tmp 104) (.tmp 105) 35 3 (.int .i64 0) 8 rfl Tryd.underlying35 info3 rfl (by decide) (by omega) (.slice Ao54 t305.length co54) t305 t312 _ _ _ (fun k_ => some k_ ≠ (.slice Ao18 y284.length co18 : Value).ownBlock ∧ some k_ ≠ (.slice Ao79 t312.length co79 : Value).ownBlock) (fun _ => False) rfl rfl ?aO ?aR (fun _ _ h => h) (fun _ h => h.elim) ?aF ?aB ?aS ?aL ?_; (case aR => repeat (first | exact (Kd.R_reads' HO315.out).2.2 | (with_reducible refine Kd.C_alloc ?_ _) | (with_reducible refine Kd.C_drewN ?_ _) | (with_reducible refine Kd.C_drew ?_))); (case aB => exact (by repeat (first | (with_reducible first | exact HB.out | apply below_alloc | apply pw_below_drewN | apply below_drew1 | refine below_set ?_ GE278.out | refine below_set ?_ GE280.out | refine below_set ?_ GE311.out) | exact HB.out))); (case aF => exact (fun k_ hk => ⟨Kd.fresh' (Kd.R_lt (by (with_reducible repeat (first | apply Kd.R_alloc | apply Kd.R_drewN | apply Kd.R_drew)); exact HO_281003.out)) k_ hk, Kd.fresh' (Kd.R_lt (by (with_reducible repeat (first | apply Kd.R_alloc | apply Kd.R_drewN | apply Kd.R_drew)); exact HO315.out)) k_ hk⟩)); (case aO => exact (by (with_reducible repeat (first | apply Kd.R_alloc | apply Kd.R_drewN | apply Kd.R_drew)); exact HO_312003.out)); (case aS => exact (below_size (by repeat (first | (with_reducible first | exact HB.out | apply below_alloc | apply pw_below_drewN | apply below_drew1 | refine below_set ?_ GE278.out | refine below_set ?_ GE280.out | refine below_set ?_ GE311.out) | exact HB.out)))); (case aL => have := LMc71.out; omega); intro v317 w78 ho hb hg hat; rw [← Ny316.out] at ho; have n0_ := Aside0.mk (Kd.R_over' (by (with_reducible repeat (first | apply Kd.R_alloc | apply Kd.R_drewN | apply Kd.R_drew)); exact HO_6.out) (Kd.R_typed (by (with_reducible repeat (first | apply Kd.R_alloc | apply Kd.R_drewN | apply Kd.R_drew)); exact HO_312003.out)) (by decide) hg); have n1_ := Aside0.mk (Kd.R_after (ok := (fun k_ => some k_ ≠ (.slice Ao79 t312.length co79 : Value).ownBlock)) (by (with_reducible repeat (first | apply Kd.R_alloc | apply Kd.R_drewN | apply Kd.R_drew)); exact Kd.R_mono HO_281003.out (fun _ hk => ⟨hk.2, hk.1⟩)) hg hat); have n2_ := Aside0.mk (blk_grown (g := gb278) (o := .cells #[.int .i64 a0_0, .int .i64 a0_1, .int .i64 a0_2, .slice A0_3 l0_3.length c0_3, .int .i64 a0_4] 37 (0, 0)) (by (with_reducible repeat (first | refine blk_drewN ?_ _ | refine blk_drew ?_ | refine blk_alloc ?_ _)); exact BK278.out) hg (Kd.R_ne HO_312003.out BK278.out (by decide))); have n3_ := Aside0.mk (blk_grown (g := gb280) (o := .cells #[.int .i64 a0_0, .int .i64 a0_1, .int .i64 a0_2, .slice Ao18 y284.length co18, .int .i64 a0_4] 37 (0, 0)) (by (with_reducible repeat (first | refine blk_drewN ?_ _ | refine blk_drew ?_ | refine blk_alloc ?_ _)); exact BK280.out) hg (Kd.R_ne HO_312003.out BK280.out (by decide))); have n4_ := Aside0.mk (blk_grown (g := gb311) (o := .cells #[.int .i64 t302, .int .i64 t303, .int .i64 t304, .slice Ao54 t305.length co54, .int .i64 t308] 37 (0, 0)) (by (with_reducible repeat (first | refine blk_drewN ?_ _ | refine blk_drew ?_ | refine blk_alloc ?_ _)); exact BK311.out) hg (Kd.R_ne HO_312003.out BK311.out (by decide))); have n5_ := Aside0.mk (Kd.R_after (ok := (fun k_ => some k_ ≠ (.slice Ao18 y284.length co18 : Value).ownBlock)) (by (with_reducible repeat (first | apply Kd.R_alloc | apply Kd.R_drewN | apply Kd.R_drew)); exact Kd.R_mono HO315.out (fun _ hk => ⟨hk.1.2, hk.2⟩)) hg hat); have n6_ := Aside0.mk (hb); have n7_ := Aside0.mk (ho); clear HO_6; clear HO_281003; clear BK278; clear BK280; clear BK311; clear HO315; clear HB; clear HO_312003; have HO_6 := n0_; have HO_281003 := n1_; have BK278 := n2_; have BK280 := n3_; have BK311 := n4_; have HO315 := n5_; have HB := n6_; have HO318 := n7_; clear n0_ n1_ n2_ n3_ n4_ n5_ n6_ n7_; clear ho hb hg hat; obtain ⟨Ao80, co80, eo80⟩ := Kd.R_slice HO318.out; subst eo80; have hcz81_0 : w78.cell? ⟨gb311, 0, none⟩ = some (.int .i64 t302) := (blk_cell BK311.out 0).trans rfl; have hcz81_1 : w78.cell? ⟨gb311, 1, none⟩ = some (.int .i64 t303) := (blk_cell BK311.out 1).trans rfl; have hcz81_2 : w78.cell? ⟨gb311, 2, none⟩ = some (.int .i64 t304) := (blk_cell BK311.out 2).trans rfl; have hcz81_3 : w78.cell? ⟨gb311, 3, none⟩ = some (.slice Ao54 t305.length co54) := (blk_cell BK311.out 3).trans rfl; have hcz81_4 : w78.cell? ⟨gb311, 4, none⟩ = some (.int .i64 t308) := (blk_cell BK311.out 4).trans rfl; have hfz81_0 := blk_frozen BK311.out 0; have hfz81_1 := blk_frozen BK311.out 1; have hfz81_2 := blk_frozen BK311.out 2; have hfz81_3 := blk_frozen BK311.out 3; have hfz81_4 := blk_frozen BK311.out 4; have hnb82 := NB278_280.out; have hnc82 := NB280_278.out; have hcz83_0 : w78.cell? ⟨gb278, 0, none⟩ = some (.int .i64 a0_0) := (blk_cell BK278.out 0).trans rfl; have hcz83_1 : w78.cell? ⟨gb278, 1, none⟩ = some (.int .i64 a0_1) := (blk_cell BK278.out 1).trans rfl; have hcz83_2 : w78.cell? ⟨gb278, 2, none⟩ = some (.int .i64 a0_2) := (blk_cell BK278.out 2).trans rfl; have hcz83_3 : w78.cell? ⟨gb278, 3, none⟩ = some (.slice A0_3 l0_3.length c0_3) := (blk_cell BK278.out 3).trans rfl; have hcz83_4 : w78.cell? ⟨gb278, 4, none⟩ = some (.int .i64 a0_4) := (blk_cell BK278.out 4).trans rfl; have hfz83_0 := blk_frozen BK278.out 0; have hfz83_1 := blk_frozen BK278.out 1; have hfz83_2 := blk_frozen BK278.out 2; have hfz83_3 := blk_frozen BK278.out 3; have hfz83_4 := blk_frozen BK278.out 4) | ((with_reducible refine gate_callee (f := 21) rfl ?_); refine goesL_ (some 110) rfl rfl Tryd.func21 (by kernel_rfl) rfl #[.agg #[.int .i64 t302, .int .i64 t303, .int .i64 t304, .slice Ao80 y316.length co80, .int .i64 t308], .agg #[.int .i64 a0_0, .int .i64 a0_1, .int .i64 a0_2, .slice A0_3 l0_3.length c0_3, .int .i64 a0_4]] rfl (by (try simp only [List.map_toArray, List.map_cons, List.map_nil]); first | done | rfl | (simp only [List.length_drop, List.length_take]; rfl)) ?_; (with_reducible refine (majordomolaw03_same.calls kj46 t302 t303 t304 _ _ y316 t308 a0_0 a0_1 a0_2 _ _ l0_3 a0_4 t319 _ ?side1 ?side2 ?side3 ?side4 A72.out).mono ?_); (case side1 => refine (Kd.R_reads' (e := 3) (base := w.heap.size) (ok := fun k_ => (some k_ ≠ (.slice Ao18 y284.length co18 : Value).ownBlock ∧ some k_ ≠ (.slice Ao79 t312.length co79 : Value).ownBlock)) (n := y316.length) (c := co80) ?_).2.2; exact (by (with_reducible repeat (first | apply Kd.R_alloc | apply Kd.R_drewN | apply Kd.R_drew)); exact (Kd.R_mono (Kd.R_far (p := ⟨gb311, 3, none⟩) (Kd.R_types HO318.out BK311.out (by decide)) (fun _ hk => hk.2) (.slice Ao80 y316.length co80)) (fun _ h_ => h_.1)))); (case side2 => exact (Kd.R_reads' HO318.out).2.1); (case side3 => exact Kd.C_below HR0_3.out (by repeat (first | (with_reducible first | exact HB.out | apply below_alloc | apply pw_below_drewN | apply below_drew1 | refine below_set ?_ GE278.out | refine below_set ?_ GE280.out | refine below_set ?_ GE311.out) | exact HB.out))); (case side4 => exact HC0_3.out); rintro e w84 ⟨rfl, hb⟩; refine ⟨_, rfl, ?_⟩; have n0_ := Aside0.mk (Kd.R_below (by (with_reducible repeat (first | apply Kd.R_alloc | apply Kd.R_drewN | apply Kd.R_drew)); exact (Kd.R_mono (Kd.R_far (p := ⟨gb311, 3, none⟩) (Kd.R_types HO_6.out BK311.out (by decide)) (fun _ hk => hk.2) (.slice Ao80 y316.length co80)) (fun _ h_ => h_.1))) hb); have n1_ := Aside0.mk (Kd.R_below (by (with_reducible repeat (first | apply Kd.R_alloc | apply Kd.R_drewN | apply Kd.R_drew)); exact (Kd.R_mono (Kd.R_far (p := ⟨gb311, 3, none⟩) (Kd.R_types HO_281003.out BK311.out (by decide)) (fun _ hk => hk.2) (.slice Ao80 y316.length co80)) (fun _ h_ => h_.1))) hb); have n2_ := Aside0.mk (Kd.R_below (by (with_reducible repeat (first | apply Kd.R_alloc | apply Kd.R_drewN | apply Kd.R_drew)); exact (Kd.R_mono (Kd.R_far (p := ⟨gb311, 3, none⟩) (Kd.R_types HO315.out BK311.out (by decide)) (fun _ hk => hk.2) (.slice Ao80 y316.length co80)) (fun _ h_ => h_.1))) hb); have n3_ := Aside0.mk (Kd.R_below (by (with_reducible repeat (first | apply Kd.R_alloc | apply Kd.R_drewN | apply Kd.R_drew)); exact (Kd.R_mono (Kd.R_far (p := ⟨gb311, 3, none⟩) (Kd.R_types HO318.out BK311.out (by decide)) (fun _ hk => hk.2) (.slice Ao80 y316.length co80)) (fun _ h_ => h_.1))) hb); have n4_ := Aside0.mk (blk_below (g := gb278) (o := .cells #[.int .i64 a0_0, .int .i64 a0_1, .int .i64 a0_2, .slice A0_3 l0_3.length c0_3, .int .i64 a0_4] 37 (0, 0)) (by (with_reducible repeat (first | refine blk_drewN ?_ _ | refine blk_drew ?_ | refine blk_alloc ?_ _)); refine blk_far ?_ NB278_311.out _; (with_reducible repeat (first | refine blk_drewN ?_ _ | refine blk_drew ?_ | refine blk_alloc ?_ _)); exact BK278.out) hb); have n5_ := Aside0.mk (blk_below (g := gb280) (o := .cells #[.int .i64 a0_0, .int .i64 a0_1, .int .i64 a0_2, .slice Ao18 y284.length co18, .int .i64 a0_4] 37 (0, 0)) (by (with_reducible repeat (first | refine blk_drewN ?_ _ | refine blk_drew ?_ | refine blk_alloc ?_ _)); refine blk_far ?_ NB280_311.out _; (with_reducible repeat (first | refine blk_drewN ?_ _ | refine blk_drew ?_ | refine blk_alloc ?_ _)); exact BK280.out) hb); have n6_ := Aside0.mk (blk_below (g := gb311) (o := .cells #[.int .i64 t302, .int .i64 t303, .int .i64 t304, .slice Ao80 y316.length co80, .int .i64 t308] 37 (0, 0)) (by (with_reducible repeat (first | refine blk_drewN ?_ _ | refine blk_drew ?_ | refine blk_alloc ?_ _)); refine blk_put (cs := #[.int .i64 t302, .int .i64 t303, .int .i64 t304, .slice Ao54 t305.length co54, .int .i64 t308]) ?_ 3 _ rfl; (with_reducible repeat (first | refine blk_drewN ?_ _ | refine blk_drew ?_ | refine blk_alloc ?_ _)); exact BK311.out) hb); have n7_ := Aside0.mk (below_step (by repeat (first | (with_reducible first | exact HB.out | apply below_alloc | apply pw_below_drewN | apply below_drew1 | refine below_set ?_ GE278.out | refine below_set ?_ GE280.out | refine below_set ?_ GE311.out) | exact HB.out)) hb); clear HO_6; clear HO_281003; clear HO315; clear HO318; clear BK278; clear BK280; clear BK311; clear HB; have HO_6 := n0_; have HO_281003 := n1_; have HO315 := n2_; have HO318 := n3_; have BK278 := n4_; have BK280 := n5_; have BK311 := n6_; have HB := n7_; clear n0_ n1_ n2_ n3_ n4_ n5_ n6_ n7_; (try clear hb); (try clear hb2); (try clear hk); (try clear hi)))
                        go_ret
                        exact ⟨by first | rfl | (simp [errW_none, errW_some] <;> rfl) | (simp [*, errW_none, errW_some] <;> rfl), by repeat (first | (with_reducible first | exact HB.out | apply below_alloc | apply pw_below_drewN | apply below_drew1 | refine below_set ?_ GE278.out | refine below_set ?_ GE280.out | refine below_set ?_ GE311.out) | exact HB.out)⟩
                      · rw [if_neg c71] at H
                        exact absurd H (by simp)
                    · rw [if_neg c70] at H
                      have c70b0 : (t313 == 0) = false := beq_eq_false_iff_ne.mpr c70
                      have c70b1 : (t313 != 0) = true := bne_iff_ne.mpr c70
                      obtain rfl := Option.some.inj H
                      obtain ⟨Ao85, co85, eo85⟩ := Kd.R_slice HO_6.out
                      subst eo85
                      go_wp2_with (first | ((with_reducible refine gate_callee (f := 27) rfl ?_); refine goesL_ (some 98) rfl rfl Tryd.func27 (by kernel_rfl) rfl #[.slice Ao85 t290.length co85, .int .i64 t309] rfl (by (try simp only [List.map_toArray, List.map_cons, List.map_nil]); first | done | rfl | (simp only [List.length_drop, List.length_take]; rfl)) ?_; (with_reducible refine (layout_TakeMore.calls kj46 _ _ t290 t309 t312 t313 _ ?side1 ?side2 A69.out).mono ?_); (case side1 => repeat (first | exact (Kd.R_reads' HO_6.out).2.2 | (with_reducible refine Kd.C_alloc ?_ _) | (with_reducible refine Kd.C_drewN ?_ _) | (with_reducible refine Kd.C_drew ?_))); (case side2 => exact (Kd.R_reads' HO_6.out).2.1); rintro e w86 ⟨v314, rfl, ho0, hb⟩; refine ⟨_, rfl, ?_⟩; have n0_ := Aside0.mk (Kd.R_below (by (with_reducible repeat (first | apply Kd.R_alloc | apply Kd.R_drewN | apply Kd.R_drew)); exact HO_6.out) hb); have n1_ := Aside0.mk (Kd.R_elder' (by (with_reducible repeat (first | apply Kd.R_alloc | apply Kd.R_drewN | apply Kd.R_drew)); exact HO_281003.out) (Kd.R_base ho0) hb); have n2_ := Aside0.mk (Kd.R_elder' (by (with_reducible repeat (first | apply Kd.R_alloc | apply Kd.R_drewN | apply Kd.R_drew)); exact HO_312003.out) (Kd.R_base ho0) hb); have n3_ := Aside0.mk (Kd.R_lower (Kd.R_new' (Kd.R_new' ho0 (Kd.R_lt (by (with_reducible repeat (first | apply Kd.R_alloc | apply Kd.R_drewN | apply Kd.R_drew)); exact HO_281003.out))) (Kd.R_lt (by (with_reducible repeat (first | apply Kd.R_alloc | apply Kd.R_drewN | apply Kd.R_drew)); exact HO_312003.out))) (below_size (by repeat (first | (with_reducible first | exact HB.out | apply below_alloc | apply pw_below_drewN | apply below_drew1 | refine below_set ?_ GE278.out | refine below_set ?_ GE280.out | refine below_set ?_ GE311.out) | exact HB.out)))); have n4_ := Aside0.mk (blk_below (g := gb278) (o := .cells #[.int .i64 a0_0, .int .i64 a0_1, .int .i64 a0_2, .slice A0_3 l0_3.length c0_3, .int .i64 a0_4] 37 (0, 0)) (by (with_reducible repeat (first | refine blk_drewN ?_ _ | refine blk_drew ?_ | refine blk_alloc ?_ _)); exact BK278.out) hb); have n5_ := Aside0.mk (blk_below (g := gb280) (o := .cells #[.int .i64 a0_0, .int .i64 a0_1, .int .i64 a0_2, .slice Ao18 y284.length co18, .int .i64 a0_4] 37 (0, 0)) (by (with_reducible repeat (first | refine blk_drewN ?_ _ | refine blk_drew ?_ | refine blk_alloc ?_ _)); exact BK280.out) hb); have n6_ := Aside0.mk (blk_below (g := gb311) (o := .cells #[.int .i64 t302, .int .i64 t303, .int .i64 t304, .slice Ao54 t305.length co54, .int .i64 t308] 37 (0, 0)) (by (with_reducible repeat (first | refine blk_drewN ?_ _ | refine blk_drew ?_ | refine blk_alloc ?_ _)); exact BK311.out) hb); have n7_ := Aside0.mk (below_step (by repeat (first | (with_reducible first | exact HB.out | apply below_alloc | apply pw_below_drewN | apply below_drew1 | refine below_set ?_ GE278.out | refine below_set ?_ GE280.out | refine below_set ?_ GE311.out) | exact HB.out)) hb); clear HO_6; clear HO_281003; clear HO_312003; clear BK278; clear BK280; clear BK311; clear HB; have HO_6 := n0_; have HO_281003 := n1_; have HO_312003 := n2_; have HO315 := n3_; have BK278 := n4_; have BK280 := n5_; have BK311 := n6_; have HB := n7_; clear n0_ n1_ n2_ n3_ n4_ n5_ n6_ n7_; (try clear hb); (try clear hb2); (try clear hk); (try clear hi); (try clear ho0)))
                      go_ret
                      exact ⟨by first | rfl | (simp [errW_none, errW_some] <;> rfl) | (simp [*, errW_none, errW_some] <;> rfl), by repeat (first | (with_reducible first | exact HB.out | apply below_alloc | apply pw_below_drewN | apply below_drew1 | refine below_set ?_ GE278.out | refine below_set ?_ GE280.out | refine below_set ?_ GE311.out) | exact HB.out)⟩
                  · rw [if_neg c68] at H
                    have c68b0 : decide (0 < t309) = false := decide_eq_false c68
                    clear c68
                    replace H := Option.bind_eq_some_iff.mp H
                    obtain ⟨t320, A870, H⟩ := H
                    replace H : (some t320) = some r := H
                    have A87 := Aside0.mk A870
                    clear A870
                    obtain rfl := Option.some.inj H
                    have hnb88 := NB311_278.out
                    have hnc88 := NB278_311.out
                    have hnb89 := NB311_280.out
                    have hnc89 := NB280_311.out
                    have hcz90_0 : wc.cell? ⟨gb311, 0, none⟩ = some (.int .i64 t302) := (blk_cell BK311.out 0).trans rfl
                    have hcz90_1 : wc.cell? ⟨gb311, 1, none⟩ = some (.int .i64 t303) := (blk_cell BK311.out 1).trans rfl
                    have hcz90_2 : wc.cell? ⟨gb311, 2, none⟩ = some (.int .i64 t304) := (blk_cell BK311.out 2).trans rfl
                    have hcz90_3 : wc.cell? ⟨gb311, 3, none⟩ = some (.slice Ao54 t305.length co54) := (blk_cell BK311.out 3).trans rfl
                    have hcz90_4 : wc.cell? ⟨gb311, 4, none⟩ = some (.int .i64 t308) := (blk_cell BK311.out 4).trans rfl
                    have hfz90_0 := blk_frozen BK311.out 0
                    have hfz90_1 := blk_frozen BK311.out 1
                    have hfz90_2 := blk_frozen BK311.out 2
                    have hfz90_3 := blk_frozen BK311.out 3
                    have hfz90_4 := blk_frozen BK311.out 4
                    have hnb91 := NB278_280.out
                    have hnc91 := NB280_278.out
                    have hcz92_0 : wc.cell? ⟨gb278, 0, none⟩ = some (.int .i64 a0_0) := (blk_cell BK278.out 0).trans rfl
                    have hcz92_1 : wc.cell? ⟨gb278, 1, none⟩ = some (.int .i64 a0_1) := (blk_cell BK278.out 1).trans rfl
                    have hcz92_2 : wc.cell? ⟨gb278, 2, none⟩ = some (.int .i64 a0_2) := (blk_cell BK278.out 2).trans rfl
                    have hcz92_3 : wc.cell? ⟨gb278, 3, none⟩ = some (.slice A0_3 l0_3.length c0_3) := (blk_cell BK278.out 3).trans rfl
                    have hcz92_4 : wc.cell? ⟨gb278, 4, none⟩ = some (.int .i64 a0_4) := (blk_cell BK278.out 4).trans rfl
                    have hfz92_0 := blk_frozen BK278.out 0
                    have hfz92_1 := blk_frozen BK278.out 1
                    have hfz92_2 := blk_frozen BK278.out 2
                    have hfz92_3 := blk_frozen BK278.out 3
                    have hfz92_4 := blk_frozen BK278.out 4
                    go_wp2_with (first | ((with_reducible refine gate_callee (f := 21) rfl ?_); refine goesL_ (some 110) rfl rfl Tryd.func21 (by kernel_rfl) rfl #[.agg #[.int .i64 t302, .int .i64 t303, .int .i64 t304, .slice Ao54 t305.length co54, .int .i64 t308], .agg #[.int .i64 a0_0, .int .i64 a0_1, .int .i64 a0_2, .slice A0_3 l0_3.length c0_3, .int .i64 a0_4]] rfl (by (try simp only [List.map_toArray, List.map_cons, List.map_nil]); first | done | rfl | (simp only [List.length_drop, List.length_take]; rfl)) ?_; (with_reducible refine (majordomolaw03_same.calls kj46 t302 t303 t304 _ _ t305 t308 a0_0 a0_1 a0_2 _ _ l0_3 a0_4 t320 _ ?side1 ?side2 ?side3 ?side4 A87.out).mono ?_); (case side1 => repeat (first | exact (Kd.R_reads' HO_312003.out).2.2 | (with_reducible refine Kd.C_alloc ?_ _) | (with_reducible refine Kd.C_drewN ?_ _) | (with_reducible refine Kd.C_drew ?_))); (case side2 => exact (Kd.R_reads' HO_312003.out).2.1); (case side3 => repeat (first | exact (Kd.C_below HR0_3.out HB.out) | (with_reducible refine Kd.C_alloc ?_ _) | (with_reducible refine Kd.C_drewN ?_ _) | (with_reducible refine Kd.C_drew ?_))); (case side4 => exact HC0_3.out); rintro e w93 ⟨rfl, hb⟩; refine ⟨_, rfl, ?_⟩; have n0_ := Aside0.mk (Kd.R_below (by (with_reducible repeat (first | apply Kd.R_alloc | apply Kd.R_drewN | apply Kd.R_drew)); exact HO_6.out) hb); have n1_ := Aside0.mk (Kd.R_below (by (with_reducible repeat (first | apply Kd.R_alloc | apply Kd.R_drewN | apply Kd.R_drew)); exact HO_281003.out) hb); have n2_ := Aside0.mk (Kd.R_below (by (with_reducible repeat (first | apply Kd.R_alloc | apply Kd.R_drewN | apply Kd.R_drew)); exact HO_312003.out) hb); have n3_ := Aside0.mk (blk_below (g := gb278) (o := .cells #[.int .i64 a0_0, .int .i64 a0_1, .int .i64 a0_2, .slice A0_3 l0_3.length c0_3, .int .i64 a0_4] 37 (0, 0)) (by (with_reducible repeat (first | refine blk_drewN ?_ _ | refine blk_drew ?_ | refine blk_alloc ?_ _)); exact BK278.out) hb); have n4_ := Aside0.mk (blk_below (g := gb280) (o := .cells #[.int .i64 a0_0, .int .i64 a0_1, .int .i64 a0_2, .slice Ao18 y284.length co18, .int .i64 a0_4] 37 (0, 0)) (by (with_reducible repeat (first | refine blk_drewN ?_ _ | refine blk_drew ?_ | refine blk_alloc ?_ _)); exact BK280.out) hb); have n5_ := Aside0.mk (blk_below (g := gb311) (o := .cells #[.int .i64 t302, .int .i64 t303, .int .i64 t304, .slice Ao54 t305.length co54, .int .i64 t308] 37 (0, 0)) (by (with_reducible repeat (first | refine blk_drewN ?_ _ | refine blk_drew ?_ | refine blk_alloc ?_ _)); exact BK311.out) hb); have n6_ := Aside0.mk (below_step (by repeat (first | (with_reducible first | exact HB.out | apply below_alloc | apply pw_below_drewN | apply below_drew1 | refine below_set ?_ GE278.out | refine below_set ?_ GE280.out | refine below_set ?_ GE311.out) | exact HB.out)) hb); clear HO_6; clear HO_281003; clear HO_312003; clear BK278; clear BK280; clear BK311; clear HB; have HO_6 := n0_; have HO_281003 := n1_; have HO_312003 := n2_; have BK278 := n3_; have BK280 := n4_; have BK311 := n5_; have HB := n6_; clear n0_ n1_ n2_ n3_ n4_ n5_ n6_; (try clear hb); (try clear hb2); (try clear hk); (try clear hi)))
                    go_ret
                    exact ⟨by first | rfl | (simp [errW_none, errW_some] <;> rfl) | (simp [*, errW_none, errW_some] <;> rfl), by repeat (first | (with_reducible first | exact HB.out | apply below_alloc | apply pw_below_drewN | apply below_drew1 | refine below_set ?_ GE278.out | refine below_set ?_ GE280.out | refine below_set ?_ GE311.out) | exact HB.out)⟩
          · rw [if_neg c45] at H
            have c45b0 : (t293 == 0) = false := beq_eq_false_iff_ne.mpr c45
            have c45b1 : (t293 != 0) = true := bne_iff_ne.mpr c45
            obtain rfl := Option.some.inj H
            go_wp2
            go_ret
            exact ⟨by first | rfl | (simp [errW_none, errW_some] <;> rfl) | (simp [*, errW_none, errW_some] <;> rfl), by repeat (first | (with_reducible first | exact HB.out | apply below_alloc | apply pw_below_drewN | apply below_drew1 | refine below_set ?_ GE278.out | refine below_set ?_ GE280.out) | exact HB.out)⟩
  · rw [if_neg c3] at H
    exact absurd H (by simp)

end Go.Proofs.YtgppfalpncbmbaaDoor.PN
