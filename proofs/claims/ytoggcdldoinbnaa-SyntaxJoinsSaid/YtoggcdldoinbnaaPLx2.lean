-- printed by wip/printx (a program of this session's, over the kit's print)
import Derived.Test.YtoggcdldoinbnaaPLx0
import Derived.Test.YtoggcdldoinbnaaPLx1
namespace Go.Proofs.Ytoggcdldoinbnaa.PL
open Go.RowKit Go.Proofs.YtoggcdldoinbnaaW.PrintWords Go.Proofs.YtoggcdldoinbnaaW.PrintLast Go.Proofs.YtoggcdldoinbnaaW.PrintMore
attribute [local go_sem] max2_int min2_int max_two min_two max_three min_three max_four min_four Go.Proofs.Ytoggcdldoinbnaa.PxMore.isSome_setCell   -- for this text's walks alone
set_option linter.unusedVariables false
set_option linter.unusedSimpArgs false

/-! ### majordomoref11_reach: function 15 -/
mutual
def majordomoref11_reach.j0 : Nat → ByteArray → Int → Bool → Option (Int)
  | 0, _, _, _ => none
  | k + 1, x0, x3, x13 => if x13 = true then (majordomoref11_reach.l0 k x0 x3 1) else (if x3 = 36 then (if (x0.size : Int) < 2 then (majordomoref11_reach.j2 k x0 x3 true) else (if 1 < (x0.size : Int) then ((majordomoref11_small.f (bt x0 1)).bind fun t103 => (majordomoref11_reach.j2 k x0 x3 (!t103))) else (none))) else (majordomoref11_reach.j2 k x0 x3 false))
def majordomoref11_reach.l0 : Nat → ByteArray → Int → Int → Option (Int)
  | 0, _, _, _ => none
  | k + 1, x0, x3, x4 => if x4 < (x0.size : Int) then (if 0 ≤ x4 then (if (bt x0 x4) = x3 then (some (wrap64 (x4 + 1))) else (majordomoref11_reach.l0 k x0 x3 (wrap64 (x4 + 1)))) else (none)) else (some 0)
def majordomoref11_reach.j2 : Nat → ByteArray → Int → Bool → Option (Int)
  | 0, _, _, _ => none
  | k + 1, x0, x3, x39 => if x39 = true then (some 0) else ((majordomoref11_digit.f x3).bind fun t104 => (if t104 = true then (majordomoref11_reach.l1 k x0 1) else ((majordomoref11_small.f x3).bind fun t106 => (if t106 = true then (majordomoref11_reach.j4 k x0 x3 1 t106) else (if x3 ≥ 65 then (if x3 ≤ 90 then (majordomoref11_reach.j4 k x0 x3 1 (decide (x3 ≤ 90))) else (majordomoref11_reach.j4 k x0 x3 1 (x3 == 36))) else (majordomoref11_reach.j4 k x0 x3 1 (x3 == 36)))))))
def majordomoref11_reach.l1 : Nat → ByteArray → Int → Option (Int)
  | 0, _, _ => none
  | k + 1, x0, x5 => if x5 < (x0.size : Int) then (if 0 ≤ x5 then ((majordomoref11_digit.f (bt x0 x5)).bind fun t105 => (if t105 = true then (majordomoref11_reach.l1 k x0 (wrap64 (x5 + 1))) else (some x5))) else (none)) else (some x5)
def majordomoref11_reach.j4 : Nat → ByteArray → Int → Int → Bool → Option (Int)
  | 0, _, _, _, _ => none
  | k + 1, x0, x3, x5, x58 => if x58 = true then (majordomoref11_reach.l2 k x0 x3 x5) else (some (mn 2 (x0.size : Int)))
def majordomoref11_reach.j6 : Nat → ByteArray → Int → Int → Option (Int)
  | 0, _, _, _ => none
  | k + 1, x0, x3, x5 => majordomoref11_reach.l3 k x0 x3 x5
def majordomoref11_reach.l3 : Nat → ByteArray → Int → Int → Option (Int)
  | 0, _, _, _ => none
  | k + 1, x0, x3, x5 => (majordomoref11_small.f x3).bind fun t108 => (if t108 = true then (if (wrap64 (x5 + 2)) < (x0.size : Int) then (if 0 ≤ x5 then (if x5 < (x0.size : Int) then (if (bt x0 x5) = 58 then (if 0 ≤ (wrap64 (x5 + 1)) then (if (wrap64 (x5 + 1)) < (x0.size : Int) then (if (bt x0 (wrap64 (x5 + 1))) = 58 then (if 0 ≤ (wrap64 (x5 + 2)) then ((majordomoref11_small.f (bt x0 (wrap64 (x5 + 2)))).bind fun t109 => (majordomoref11_reach.j8 k x0 x3 x5 t109)) else (none)) else (majordomoref11_reach.j8 k x0 x3 x5 false)) else (none)) else (none)) else (majordomoref11_reach.j8 k x0 x3 x5 false)) else (none)) else (none)) else (majordomoref11_reach.j8 k x0 x3 x5 false)) else (majordomoref11_reach.j8 k x0 x3 x5 false))
def majordomoref11_reach.j8 : Nat → ByteArray → Int → Int → Bool → Option (Int)
  | 0, _, _, _, _ => none
  | k + 1, x0, x3, x5, x109 => if x109 = true then (majordomoref11_reach.l4 k x0 x3 (wrap64 (x5 + 3))) else (some x5)
def majordomoref11_reach.l4 : Nat → ByteArray → Int → Int → Option (Int)
  | 0, _, _, _ => none
  | k + 1, x0, x3, x5 => if x5 < (x0.size : Int) then (if 0 ≤ x5 then ((majordomoref11_tail.f (bt x0 x5)).bind fun t110 => (if t110 = true then (majordomoref11_reach.l4 k x0 x3 (wrap64 (x5 + 1))) else (majordomoref11_reach.l3 k x0 x3 x5))) else (none)) else (majordomoref11_reach.l3 k x0 x3 x5)
def majordomoref11_reach.l2 : Nat → ByteArray → Int → Int → Option (Int)
  | 0, _, _, _ => none
  | k + 1, x0, x3, x5 => if x5 < (x0.size : Int) then (if 0 ≤ x5 then ((majordomoref11_tail.f (bt x0 x5)).bind fun t107 => (if t107 = true then (majordomoref11_reach.l2 k x0 x3 (wrap64 (x5 + 1))) else (majordomoref11_reach.j6 k x0 x3 x5))) else (none)) else (majordomoref11_reach.j6 k x0 x3 x5)
end
def majordomoref11_reach.f (k : Nat) (a0 : ByteArray) : Option (Int) := if 0 < (a0.size : Int) then (if (bt a0 0) = 39 then (majordomoref11_reach.j0 k a0 (bt a0 0) true) else (majordomoref11_reach.j0 k a0 (bt a0 0) ((bt a0 0) == 34))) else (none)
theorem majordomoref11_reach.mono_l : ∀ k, (∀ y0 y1 y2, LeO (majordomoref11_reach.j0 k y0 y1 y2) (majordomoref11_reach.j0 (k + 1) y0 y1 y2)) ∧ (∀ y0 y1 y2, LeO (majordomoref11_reach.l0 k y0 y1 y2) (majordomoref11_reach.l0 (k + 1) y0 y1 y2)) ∧ (∀ y0 y1 y2, LeO (majordomoref11_reach.j2 k y0 y1 y2) (majordomoref11_reach.j2 (k + 1) y0 y1 y2)) ∧ (∀ y0 y1, LeO (majordomoref11_reach.l1 k y0 y1) (majordomoref11_reach.l1 (k + 1) y0 y1)) ∧ (∀ y0 y1 y2 y3, LeO (majordomoref11_reach.j4 k y0 y1 y2 y3) (majordomoref11_reach.j4 (k + 1) y0 y1 y2 y3)) ∧ (∀ y0 y1 y2, LeO (majordomoref11_reach.j6 k y0 y1 y2) (majordomoref11_reach.j6 (k + 1) y0 y1 y2)) ∧ (∀ y0 y1 y2, LeO (majordomoref11_reach.l3 k y0 y1 y2) (majordomoref11_reach.l3 (k + 1) y0 y1 y2)) ∧ (∀ y0 y1 y2 y3, LeO (majordomoref11_reach.j8 k y0 y1 y2 y3) (majordomoref11_reach.j8 (k + 1) y0 y1 y2 y3)) ∧ (∀ y0 y1 y2, LeO (majordomoref11_reach.l4 k y0 y1 y2) (majordomoref11_reach.l4 (k + 1) y0 y1 y2)) ∧ (∀ y0 y1 y2, LeO (majordomoref11_reach.l2 k y0 y1 y2) (majordomoref11_reach.l2 (k + 1) y0 y1 y2))
  | 0 => ⟨fun _ _ _ r h => by simp [majordomoref11_reach.j0] at h, fun _ _ _ r h => by simp [majordomoref11_reach.l0] at h, fun _ _ _ r h => by simp [majordomoref11_reach.j2] at h, fun _ _ r h => by simp [majordomoref11_reach.l1] at h, fun _ _ _ _ r h => by simp [majordomoref11_reach.j4] at h, fun _ _ _ r h => by simp [majordomoref11_reach.j6] at h, fun _ _ _ r h => by simp [majordomoref11_reach.l3] at h, fun _ _ _ _ r h => by simp [majordomoref11_reach.j8] at h, fun _ _ _ r h => by simp [majordomoref11_reach.l4] at h, fun _ _ _ r h => by simp [majordomoref11_reach.l2] at h⟩
  | k + 1 => by
    obtain ⟨ih0, ih1, ih2, ih3, ih4, ih5, ih6, ih7, ih8, ih9⟩ := majordomoref11_reach.mono_l k
    refine ⟨?_, ?_, ?_, ?_, ?_, ?_, ?_, ?_, ?_, ?_⟩
    · intro y0 y1 y2
      unfold majordomoref11_reach.j0
      repeat' first
      | (with_reducible exact ih0 _ _ _)
      | (with_reducible exact ih1 _ _ _)
      | (with_reducible exact ih2 _ _ _)
      | (with_reducible exact ih3 _ _)
      | (with_reducible exact ih4 _ _ _ _)
      | (with_reducible exact ih5 _ _ _)
      | (with_reducible exact ih6 _ _ _)
      | (with_reducible exact ih7 _ _ _ _)
      | (with_reducible exact ih8 _ _ _)
      | (with_reducible exact ih9 _ _ _)
      | (with_reducible exact LeO.refl _)
      | (with_reducible exact LeO.none _)
      | (with_reducible refine LeO.ite ?_ ?_)
      | (with_reducible refine LeO.bind ?_ (fun _ => ?_))
      | exact ih0 _ _ _
      | exact ih1 _ _ _
      | exact ih2 _ _ _
      | exact ih3 _ _
      | exact ih4 _ _ _ _
      | exact ih5 _ _ _
      | exact ih6 _ _ _
      | exact ih7 _ _ _ _
      | exact ih8 _ _ _
      | exact ih9 _ _ _
      | exact LeO.none _
      | refine LeO.ite ?_ ?_
      | refine LeO.bind ?_ (fun _ => ?_)
    · intro y0 y1 y2
      unfold majordomoref11_reach.l0
      repeat' first
      | (with_reducible exact ih0 _ _ _)
      | (with_reducible exact ih1 _ _ _)
      | (with_reducible exact ih2 _ _ _)
      | (with_reducible exact ih3 _ _)
      | (with_reducible exact ih4 _ _ _ _)
      | (with_reducible exact ih5 _ _ _)
      | (with_reducible exact ih6 _ _ _)
      | (with_reducible exact ih7 _ _ _ _)
      | (with_reducible exact ih8 _ _ _)
      | (with_reducible exact ih9 _ _ _)
      | (with_reducible exact LeO.refl _)
      | (with_reducible exact LeO.none _)
      | (with_reducible refine LeO.ite ?_ ?_)
      | (with_reducible refine LeO.bind ?_ (fun _ => ?_))
      | exact ih0 _ _ _
      | exact ih1 _ _ _
      | exact ih2 _ _ _
      | exact ih3 _ _
      | exact ih4 _ _ _ _
      | exact ih5 _ _ _
      | exact ih6 _ _ _
      | exact ih7 _ _ _ _
      | exact ih8 _ _ _
      | exact ih9 _ _ _
      | exact LeO.none _
      | refine LeO.ite ?_ ?_
      | refine LeO.bind ?_ (fun _ => ?_)
    · intro y0 y1 y2
      unfold majordomoref11_reach.j2
      repeat' first
      | (with_reducible exact ih0 _ _ _)
      | (with_reducible exact ih1 _ _ _)
      | (with_reducible exact ih2 _ _ _)
      | (with_reducible exact ih3 _ _)
      | (with_reducible exact ih4 _ _ _ _)
      | (with_reducible exact ih5 _ _ _)
      | (with_reducible exact ih6 _ _ _)
      | (with_reducible exact ih7 _ _ _ _)
      | (with_reducible exact ih8 _ _ _)
      | (with_reducible exact ih9 _ _ _)
      | (with_reducible exact LeO.refl _)
      | (with_reducible exact LeO.none _)
      | (with_reducible refine LeO.ite ?_ ?_)
      | (with_reducible refine LeO.bind ?_ (fun _ => ?_))
      | exact ih0 _ _ _
      | exact ih1 _ _ _
      | exact ih2 _ _ _
      | exact ih3 _ _
      | exact ih4 _ _ _ _
      | exact ih5 _ _ _
      | exact ih6 _ _ _
      | exact ih7 _ _ _ _
      | exact ih8 _ _ _
      | exact ih9 _ _ _
      | exact LeO.none _
      | refine LeO.ite ?_ ?_
      | refine LeO.bind ?_ (fun _ => ?_)
    · intro y0 y1
      unfold majordomoref11_reach.l1
      repeat' first
      | (with_reducible exact ih0 _ _ _)
      | (with_reducible exact ih1 _ _ _)
      | (with_reducible exact ih2 _ _ _)
      | (with_reducible exact ih3 _ _)
      | (with_reducible exact ih4 _ _ _ _)
      | (with_reducible exact ih5 _ _ _)
      | (with_reducible exact ih6 _ _ _)
      | (with_reducible exact ih7 _ _ _ _)
      | (with_reducible exact ih8 _ _ _)
      | (with_reducible exact ih9 _ _ _)
      | (with_reducible exact LeO.refl _)
      | (with_reducible exact LeO.none _)
      | (with_reducible refine LeO.ite ?_ ?_)
      | (with_reducible refine LeO.bind ?_ (fun _ => ?_))
      | exact ih0 _ _ _
      | exact ih1 _ _ _
      | exact ih2 _ _ _
      | exact ih3 _ _
      | exact ih4 _ _ _ _
      | exact ih5 _ _ _
      | exact ih6 _ _ _
      | exact ih7 _ _ _ _
      | exact ih8 _ _ _
      | exact ih9 _ _ _
      | exact LeO.none _
      | refine LeO.ite ?_ ?_
      | refine LeO.bind ?_ (fun _ => ?_)
    · intro y0 y1 y2 y3
      unfold majordomoref11_reach.j4
      repeat' first
      | (with_reducible exact ih0 _ _ _)
      | (with_reducible exact ih1 _ _ _)
      | (with_reducible exact ih2 _ _ _)
      | (with_reducible exact ih3 _ _)
      | (with_reducible exact ih4 _ _ _ _)
      | (with_reducible exact ih5 _ _ _)
      | (with_reducible exact ih6 _ _ _)
      | (with_reducible exact ih7 _ _ _ _)
      | (with_reducible exact ih8 _ _ _)
      | (with_reducible exact ih9 _ _ _)
      | (with_reducible exact LeO.refl _)
      | (with_reducible exact LeO.none _)
      | (with_reducible refine LeO.ite ?_ ?_)
      | (with_reducible refine LeO.bind ?_ (fun _ => ?_))
      | exact ih0 _ _ _
      | exact ih1 _ _ _
      | exact ih2 _ _ _
      | exact ih3 _ _
      | exact ih4 _ _ _ _
      | exact ih5 _ _ _
      | exact ih6 _ _ _
      | exact ih7 _ _ _ _
      | exact ih8 _ _ _
      | exact ih9 _ _ _
      | exact LeO.none _
      | refine LeO.ite ?_ ?_
      | refine LeO.bind ?_ (fun _ => ?_)
    · intro y0 y1 y2
      unfold majordomoref11_reach.j6
      repeat' first
      | (with_reducible exact ih0 _ _ _)
      | (with_reducible exact ih1 _ _ _)
      | (with_reducible exact ih2 _ _ _)
      | (with_reducible exact ih3 _ _)
      | (with_reducible exact ih4 _ _ _ _)
      | (with_reducible exact ih5 _ _ _)
      | (with_reducible exact ih6 _ _ _)
      | (with_reducible exact ih7 _ _ _ _)
      | (with_reducible exact ih8 _ _ _)
      | (with_reducible exact ih9 _ _ _)
      | (with_reducible exact LeO.refl _)
      | (with_reducible exact LeO.none _)
      | (with_reducible refine LeO.ite ?_ ?_)
      | (with_reducible refine LeO.bind ?_ (fun _ => ?_))
      | exact ih0 _ _ _
      | exact ih1 _ _ _
      | exact ih2 _ _ _
      | exact ih3 _ _
      | exact ih4 _ _ _ _
      | exact ih5 _ _ _
      | exact ih6 _ _ _
      | exact ih7 _ _ _ _
      | exact ih8 _ _ _
      | exact ih9 _ _ _
      | exact LeO.none _
      | refine LeO.ite ?_ ?_
      | refine LeO.bind ?_ (fun _ => ?_)
    · intro y0 y1 y2
      unfold majordomoref11_reach.l3
      repeat' first
      | (with_reducible exact ih0 _ _ _)
      | (with_reducible exact ih1 _ _ _)
      | (with_reducible exact ih2 _ _ _)
      | (with_reducible exact ih3 _ _)
      | (with_reducible exact ih4 _ _ _ _)
      | (with_reducible exact ih5 _ _ _)
      | (with_reducible exact ih6 _ _ _)
      | (with_reducible exact ih7 _ _ _ _)
      | (with_reducible exact ih8 _ _ _)
      | (with_reducible exact ih9 _ _ _)
      | (with_reducible exact LeO.refl _)
      | (with_reducible exact LeO.none _)
      | (with_reducible refine LeO.ite ?_ ?_)
      | (with_reducible refine LeO.bind ?_ (fun _ => ?_))
      | exact ih0 _ _ _
      | exact ih1 _ _ _
      | exact ih2 _ _ _
      | exact ih3 _ _
      | exact ih4 _ _ _ _
      | exact ih5 _ _ _
      | exact ih6 _ _ _
      | exact ih7 _ _ _ _
      | exact ih8 _ _ _
      | exact ih9 _ _ _
      | exact LeO.none _
      | refine LeO.ite ?_ ?_
      | refine LeO.bind ?_ (fun _ => ?_)
    · intro y0 y1 y2 y3
      unfold majordomoref11_reach.j8
      repeat' first
      | (with_reducible exact ih0 _ _ _)
      | (with_reducible exact ih1 _ _ _)
      | (with_reducible exact ih2 _ _ _)
      | (with_reducible exact ih3 _ _)
      | (with_reducible exact ih4 _ _ _ _)
      | (with_reducible exact ih5 _ _ _)
      | (with_reducible exact ih6 _ _ _)
      | (with_reducible exact ih7 _ _ _ _)
      | (with_reducible exact ih8 _ _ _)
      | (with_reducible exact ih9 _ _ _)
      | (with_reducible exact LeO.refl _)
      | (with_reducible exact LeO.none _)
      | (with_reducible refine LeO.ite ?_ ?_)
      | (with_reducible refine LeO.bind ?_ (fun _ => ?_))
      | exact ih0 _ _ _
      | exact ih1 _ _ _
      | exact ih2 _ _ _
      | exact ih3 _ _
      | exact ih4 _ _ _ _
      | exact ih5 _ _ _
      | exact ih6 _ _ _
      | exact ih7 _ _ _ _
      | exact ih8 _ _ _
      | exact ih9 _ _ _
      | exact LeO.none _
      | refine LeO.ite ?_ ?_
      | refine LeO.bind ?_ (fun _ => ?_)
    · intro y0 y1 y2
      unfold majordomoref11_reach.l4
      repeat' first
      | (with_reducible exact ih0 _ _ _)
      | (with_reducible exact ih1 _ _ _)
      | (with_reducible exact ih2 _ _ _)
      | (with_reducible exact ih3 _ _)
      | (with_reducible exact ih4 _ _ _ _)
      | (with_reducible exact ih5 _ _ _)
      | (with_reducible exact ih6 _ _ _)
      | (with_reducible exact ih7 _ _ _ _)
      | (with_reducible exact ih8 _ _ _)
      | (with_reducible exact ih9 _ _ _)
      | (with_reducible exact LeO.refl _)
      | (with_reducible exact LeO.none _)
      | (with_reducible refine LeO.ite ?_ ?_)
      | (with_reducible refine LeO.bind ?_ (fun _ => ?_))
      | exact ih0 _ _ _
      | exact ih1 _ _ _
      | exact ih2 _ _ _
      | exact ih3 _ _
      | exact ih4 _ _ _ _
      | exact ih5 _ _ _
      | exact ih6 _ _ _
      | exact ih7 _ _ _ _
      | exact ih8 _ _ _
      | exact ih9 _ _ _
      | exact LeO.none _
      | refine LeO.ite ?_ ?_
      | refine LeO.bind ?_ (fun _ => ?_)
    · intro y0 y1 y2
      unfold majordomoref11_reach.l2
      repeat' first
      | (with_reducible exact ih0 _ _ _)
      | (with_reducible exact ih1 _ _ _)
      | (with_reducible exact ih2 _ _ _)
      | (with_reducible exact ih3 _ _)
      | (with_reducible exact ih4 _ _ _ _)
      | (with_reducible exact ih5 _ _ _)
      | (with_reducible exact ih6 _ _ _)
      | (with_reducible exact ih7 _ _ _ _)
      | (with_reducible exact ih8 _ _ _)
      | (with_reducible exact ih9 _ _ _)
      | (with_reducible exact LeO.refl _)
      | (with_reducible exact LeO.none _)
      | (with_reducible refine LeO.ite ?_ ?_)
      | (with_reducible refine LeO.bind ?_ (fun _ => ?_))
      | exact ih0 _ _ _
      | exact ih1 _ _ _
      | exact ih2 _ _ _
      | exact ih3 _ _
      | exact ih4 _ _ _ _
      | exact ih5 _ _ _
      | exact ih6 _ _ _
      | exact ih7 _ _ _ _
      | exact ih8 _ _ _
      | exact ih9 _ _ _
      | exact LeO.none _
      | refine LeO.ite ?_ ?_
      | refine LeO.bind ?_ (fun _ => ?_)
theorem majordomoref11_reach.mono : ∀ a0 k, LeO (majordomoref11_reach.f k a0) (majordomoref11_reach.f (k + 1) a0) := by
  intro a0 k
  obtain ⟨ih0, ih1, ih2, ih3, ih4, ih5, ih6, ih7, ih8, ih9⟩ := majordomoref11_reach.mono_l k
  unfold majordomoref11_reach.f
  repeat' first
      | (with_reducible exact ih0 _ _ _)
      | (with_reducible exact ih1 _ _ _)
      | (with_reducible exact ih2 _ _ _)
      | (with_reducible exact ih3 _ _)
      | (with_reducible exact ih4 _ _ _ _)
      | (with_reducible exact ih5 _ _ _)
      | (with_reducible exact ih6 _ _ _)
      | (with_reducible exact ih7 _ _ _ _)
      | (with_reducible exact ih8 _ _ _)
      | (with_reducible exact ih9 _ _ _)
      | (with_reducible exact LeO.refl _)
      | (with_reducible exact LeO.none _)
      | (with_reducible refine LeO.ite ?_ ?_)
      | (with_reducible refine LeO.bind ?_ (fun _ => ?_))
      | exact ih0 _ _ _
      | exact ih1 _ _ _
      | exact ih2 _ _ _
      | exact ih3 _ _
      | exact ih4 _ _ _ _
      | exact ih5 _ _ _
      | exact ih6 _ _ _
      | exact ih7 _ _ _ _
      | exact ih8 _ _ _
      | exact ih9 _ _ _
      | exact LeO.none _
      | refine LeO.ite ?_ ?_
      | refine LeO.bind ?_ (fun _ => ?_)
set_option maxHeartbeats 8000000 in
set_option maxRecDepth 100000 in
theorem majordomoref11_reach.calls (k : Nat) (a0 : ByteArray) (r : Int) (w : World) (h : majordomoref11_reach.f k a0 = some r) :
    Calls Try.prog 15 #[.string a0] w fun e w' => e = .returned (.int .i64 r) ∧ Below w.heap.size w w' := by
  have HB := Aside0.mk (Below.refl w.heap.size w)
  have H : (if 0 < (a0.size : Int) then (if (bt a0 0) = 39 then (majordomoref11_reach.j0 k a0 (bt a0 0) true) else (majordomoref11_reach.j0 k a0 (bt a0 0) ((bt a0 0) == 34))) else (none)) = some r := h
  clear h
  by_cases c2 : 0 < (a0.size : Int)
  · rw [if_pos c2] at H
    have c2b0 : decide (0 < (a0.size : Int)) = true := decide_eq_true c2
    have c2b1 : decide (0 < a0.size) = true := decide_eq_true (by omega)
    clear c2
    have HC4 := Aside0.mk H
    clear H
    have p3 : 0 ≤ (0 : Int) := (by omega)
    have q3 : 0 < a0.size := (by have : (0 : Int) < (a0.size : Int) := of_decide_eq_true (by first | (with_reducible assumption) | assumption); omega)
    have hx3 : ∀ h : 0 < a0.size, ((a0[0]'h).toNat : Int) = bt a0 0 := bt_at a0 0
    clear p3
    have qi3 : (0 < (a0.size : Int)) = True := eq_true (of_decide_eq_true (by first | (with_reducible assumption) | assumption))
    replace q3 := eq_true q3
    go_enter Try.func15, Try.ntmps15
    go_upto_region 2 with (fail)
    go_cut [13] (fun v13 wc => ∃ (kq : Nat) (x13_3 : Bool), v13 = .bool x13_3 ∧ Aside0 (majordomoref11_reach.j0 kq a0 (bt a0 0) x13_3 = some r) ∧ Aside0 (kq ≤ k) ∧ Aside0 (Below w.heap.size w wc))
    case first =>
      have H := HC4.out
      clear HC4
      by_cases c5 : (bt a0 0) = 39
      · rw [if_pos c5] at H
        have c5b0 : ((bt a0 0) == 39) = true := beq_iff_eq.mpr c5
        have c5b1 : ((bt a0 0) != 39) = false := bne_eq_false_iff_eq.mpr c5
        clear c5
        (first | rw [c5b0] | (simp only [i64_w, i32_w]; rw [c5b0]) | skip)
        have H' := Aside0.mk H
        clear H
        go_wp2
        go_meet
        case rel => exact ⟨_, (true), (by first | rfl | (simp; done) | (simp [*]; done)), H', ⟨by first | omega | exact Nat.le_refl _⟩, ⟨by repeat (first | (with_reducible first | exact HB.out | apply below_alloc | apply pw_below_drewN | apply below_drew1) | exact HB.out)⟩⟩
      · rw [if_neg c5] at H
        have c5b0 : ((bt a0 0) == 39) = false := beq_eq_false_iff_ne.mpr c5
        have c5b1 : ((bt a0 0) != 39) = true := bne_iff_ne.mpr c5
        (first | rw [c5b0] | (simp only [i64_w, i32_w]; rw [c5b0]) | skip)
        have H' := Aside0.mk H
        clear H
        go_wp2
        go_meet
        case rel => exact ⟨_, (((bt a0 0) == 34)), (by first | rfl | (simp; done) | (simp [*]; done)), H', ⟨by first | omega | exact Nat.le_refl _⟩, ⟨by repeat (first | (with_reducible first | exact HB.out | apply below_alloc | apply pw_below_drewN | apply below_drew1) | exact HB.out)⟩⟩
    case rest =>
      clear HC4
      try clear c1
      try clear c2
      try clear c2b0
      try clear c2b1
      try clear p2
      try clear p3
      try clear q3
      try clear hx3
      try clear qi3
      try clear c5
      try clear c5b0
      try clear c5b1
      try clear p3
      try clear q3
      obtain ⟨kq, x13_3, rfl, HA, HJ3, HB⟩ := hcut
      cases kq with
      | zero => exact absurd HA.out (by simp [majordomoref11_reach.j0])
      | succ kj3 =>
        have H := HA.out
        clear HA
        simp only [majordomoref11_reach.j0] at H
        by_cases c6 : x13_3 = true
        · subst c6
          have H1 : (majordomoref11_reach.l0 kj3 a0 (bt a0 0) 1) = some r := by rw [if_pos rfl] at H; exact H
          clear H
          have H := H1
          clear H1
          have H' := Aside0.mk H
          clear H
          go_wp2
          go_loopg [4] kj3 (fun kq v4 w' => ∃ (x4_2 : Int), v4 = .int .i64 x4_2 ∧ Aside0 (majordomoref11_reach.l0 kq a0 (bt a0 0) x4_2 = some r) ∧ Aside0 (kq ≤ kj3) ∧ Aside0 (Below w.heap.size w w'))
          case atStart => exact ⟨(1), (by first | rfl | (simp; done) | (simp [*]; done)), H', ⟨Nat.le_refl _⟩, ⟨by repeat (first | (with_reducible first | exact HB.out | apply below_alloc | apply pw_below_drewN | apply below_drew1) | exact HB.out)⟩⟩
          case round =>
            clear H'
            try clear c1
            try clear c2
            try clear c2b0
            try clear c2b1
            try clear p2
            try clear p3
            try clear q3
            try clear hx3
            try clear qi3
            try clear c5
            try clear c5b0
            try clear c5b1
            try clear c6
            try clear p2
            try clear p3
            try clear q3
            obtain ⟨x4_2, rfl, HA, HK2, HB⟩ := hrel
            cases gk with
            | zero => exact absurd HA.out (by simp [majordomoref11_reach.l0])
            | succ k2 =>
              have H := HA.out
              clear HA
              simp only [majordomoref11_reach.l0] at H
              by_cases c7 : x4_2 < (a0.size : Int)
              · rw [if_pos c7] at H
                have c7b0 : decide (x4_2 < (a0.size : Int)) = true := decide_eq_true c7
                clear c7
                by_cases c8 : 0 ≤ x4_2
                · rw [if_pos c8] at H
                  have c8b0 : decide (0 ≤ x4_2) = true := decide_eq_true c8
                  clear c8
                  by_cases c10 : (bt a0 x4_2) = (bt a0 0)
                  · rw [if_pos c10] at H
                    have c10b0 : ((bt a0 x4_2) == (bt a0 0)) = true := beq_iff_eq.mpr c10
                    have c10b1 : ((bt a0 x4_2) != (bt a0 0)) = false := bne_eq_false_iff_eq.mpr c10
                    clear c10
                    obtain rfl := Option.some.inj H
                    have p9 : 0 ≤ (x4_2 : Int) := of_decide_eq_true (by first | (with_reducible assumption) | assumption)
                    have q9 : x4_2 < (a0.size : Int) := of_decide_eq_true (by first | (with_reducible assumption) | assumption)
                    have hx9 := bt_at a0 x4_2
                    replace p9 := eq_true p9
                    replace q9 := eq_true q9
                    go_wp2
                    go_ret
                    exact ⟨by first | rfl | (simp [errW_none, errW_some] <;> rfl) | (simp [*, errW_none, errW_some] <;> rfl), by repeat (first | (with_reducible first | exact HB.out | apply below_alloc | apply pw_below_drewN | apply below_drew1) | exact HB.out)⟩
                  · rw [if_neg c10] at H
                    have c10b0 : ((bt a0 x4_2) == (bt a0 0)) = false := beq_eq_false_iff_ne.mpr c10
                    have c10b1 : ((bt a0 x4_2) != (bt a0 0)) = true := bne_iff_ne.mpr c10
                    have H' := Aside0.mk H
                    clear H
                    have p9 : 0 ≤ (x4_2 : Int) := of_decide_eq_true (by first | (with_reducible assumption) | assumption)
                    have q9 : x4_2 < (a0.size : Int) := of_decide_eq_true (by first | (with_reducible assumption) | assumption)
                    have hx9 := bt_at a0 x4_2
                    replace p9 := eq_true p9
                    replace q9 := eq_true q9
                    go_wp2
                    go_roundg k2
                    case measure => have := HJ3.out; have := HK2.out; omega
                    case rel => exact ⟨(wrap64 (x4_2 + 1)), (by first | rfl | (simp; done) | (simp [*]; done)), H', ⟨by have := HJ3.out; have := HK2.out; omega⟩, ⟨by repeat (first | (with_reducible first | exact HB.out | apply below_alloc | apply pw_below_drewN | apply below_drew1) | exact HB.out)⟩⟩
                · rw [if_neg c8] at H
                  exact absurd H (by simp)
              · rw [if_neg c7] at H
                have c7b0 : decide (x4_2 < (a0.size : Int)) = false := decide_eq_false c7
                clear c7
                obtain rfl := Option.some.inj H
                go_wp2
                go_ret
                exact ⟨by first | rfl | (simp [errW_none, errW_some] <;> rfl) | (simp [*, errW_none, errW_some] <;> rfl), by repeat (first | (with_reducible first | exact HB.out | apply below_alloc | apply pw_below_drewN | apply below_drew1) | exact HB.out)⟩
        · replace c6 := Bool.eq_false_iff.mpr c6
          subst c6
          have H1 : (if (bt a0 0) = 36 then (if (a0.size : Int) < 2 then (majordomoref11_reach.j2 kj3 a0 (bt a0 0) true) else (if 1 < (a0.size : Int) then ((majordomoref11_small.f (bt a0 1)).bind fun t103 => (majordomoref11_reach.j2 kj3 a0 (bt a0 0) (!t103))) else (none))) else (majordomoref11_reach.j2 kj3 a0 (bt a0 0) false)) = some r := by rw [if_neg (show ¬ (false = true) by decide)] at H; exact H
          clear H
          have H := H1
          clear H1
          have HC11 := Aside0.mk H
          clear H
          go_upto_region 9 with (fail)
          go_cut [39] (fun v39 wc => ∃ (kq : Nat) (x39_10 : Bool), v39 = .bool x39_10 ∧ Aside0 (majordomoref11_reach.j2 kq a0 (bt a0 0) x39_10 = some r) ∧ Aside0 (kq ≤ kj3) ∧ Aside0 (Below w.heap.size w wc))
          case first =>
            have H := HC11.out
            clear HC11
            by_cases c12 : (bt a0 0) = 36
            · rw [if_pos c12] at H
              have c12b0 : ((bt a0 0) == 36) = true := beq_iff_eq.mpr c12
              have c12b1 : ((bt a0 0) != 36) = false := bne_eq_false_iff_eq.mpr c12
              clear c12
              (first | rw [c12b0] | (simp only [i64_w, i32_w]; rw [c12b0]) | skip)
              by_cases c13 : (a0.size : Int) < 2
              · rw [if_pos c13] at H
                have c13b0 : decide ((a0.size : Int) < 2) = true := decide_eq_true c13
                have c13b1 : decide (a0.size < 2) = true := decide_eq_true (by omega)
                clear c13
                have H' := Aside0.mk H
                clear H
                go_wp2
                go_meet
                case rel => exact ⟨_, (true), (by first | rfl | (simp; done) | (simp [*]; done)), H', ⟨by have := HJ3.out; first | omega | exact Nat.le_refl _⟩, ⟨by repeat (first | (with_reducible first | exact HB.out | apply below_alloc | apply pw_below_drewN | apply below_drew1) | exact HB.out)⟩⟩
              · rw [if_neg c13] at H
                have c13b0 : decide ((a0.size : Int) < 2) = false := decide_eq_false c13
                have c13b1 : decide (a0.size < 2) = false := decide_eq_false (by omega)
                clear c13
                by_cases c14 : 1 < (a0.size : Int)
                · rw [if_pos c14] at H
                  have c14b0 : decide (1 < (a0.size : Int)) = true := decide_eq_true c14
                  have c14b1 : decide (1 < a0.size) = true := decide_eq_true (by omega)
                  clear c14
                  replace H := Option.bind_eq_some_iff.mp H
                  obtain ⟨t103, A160, H⟩ := H
                  replace H : (majordomoref11_reach.j2 kj3 a0 (bt a0 0) (!t103)) = some r := H
                  have A16 := Aside0.mk A160
                  clear A160
                  have H' := Aside0.mk H
                  clear H
                  have p15 : 0 ≤ (1 : Int) := (by omega)
                  have q15 : 1 < a0.size := (by have : (1 : Int) < (a0.size : Int) := of_decide_eq_true (by first | (with_reducible assumption) | assumption); omega)
                  have hx15 : ∀ h : 1 < a0.size, ((a0[1]'h).toNat : Int) = bt a0 1 := bt_at a0 1
                  clear p15
                  have qi15 : (1 < (a0.size : Int)) = True := eq_true (of_decide_eq_true (by first | (with_reducible assumption) | assumption))
                  replace q15 := eq_true q15
                  go_wp2_with (first | (go_at_call 28; (with_reducible refine (majordomoref11_small.calls (bt a0 1) t103 _ A16.out).mono ?_); rintro e w' ⟨rfl, ⟨nd, rfl⟩⟩))
                  go_meet
                  case rel => exact ⟨_, (!t103), (by first | rfl | (simp; done) | (simp [*]; done)), H', ⟨by have := HJ3.out; first | omega | exact Nat.le_refl _⟩, ⟨by repeat (first | (with_reducible first | exact HB.out | apply below_alloc | apply pw_below_drewN | apply below_drew1) | exact HB.out)⟩⟩
                · rw [if_neg c14] at H
                  exact absurd H (by simp)
            · rw [if_neg c12] at H
              have c12b0 : ((bt a0 0) == 36) = false := beq_eq_false_iff_ne.mpr c12
              have c12b1 : ((bt a0 0) != 36) = true := bne_iff_ne.mpr c12
              (first | rw [c12b0] | (simp only [i64_w, i32_w]; rw [c12b0]) | skip)
              have H' := Aside0.mk H
              clear H
              go_wp2
              go_meet
              case rel => exact ⟨_, (false), (by first | rfl | (simp; done) | (simp [*]; done)), H', ⟨by have := HJ3.out; first | omega | exact Nat.le_refl _⟩, ⟨by repeat (first | (with_reducible first | exact HB.out | apply below_alloc | apply pw_below_drewN | apply below_drew1) | exact HB.out)⟩⟩
          case rest =>
            clear HC11
            try clear c1
            try clear p1
            try clear q1
            try clear hx1
            try clear qi1
            try clear c2
            try clear c2b0
            try clear c2b1
            try clear p2
            try clear p3
            try clear q3
            try clear hx3
            try clear qi3
            try clear c5
            try clear c5b0
            try clear c5b1
            try clear c6
            try clear p6
            try clear c7
            try clear c7b0
            try clear c8
            try clear c8b0
            try clear p9
            try clear q9
            try clear hx9
            try clear c10
            try clear c10b0
            try clear c10b1
            try clear c12
            try clear c12b0
            try clear c12b1
            try clear c13
            try clear c13b0
            try clear c13b1
            try clear c14
            try clear c14b0
            try clear c14b1
            try clear c15
            try clear p15
            try clear q15
            try clear hx15
            try clear qi15
            try clear p15
            try clear p2
            try clear p3
            try clear p9
            try clear q15
            try clear q3
            try clear q9
            obtain ⟨kq, x39_10, rfl, HA, HJ10, HB⟩ := hcut
            cases kq with
            | zero => exact absurd HA.out (by simp [majordomoref11_reach.j2])
            | succ kj10 =>
              have H := HA.out
              clear HA
              simp only [majordomoref11_reach.j2] at H
              by_cases c17 : x39_10 = true
              · subst c17
                have H1 : (some 0) = some r := by rw [if_pos rfl] at H; exact H
                clear H
                have H := H1
                clear H1
                obtain rfl := Option.some.inj H
                go_wp2
                go_ret
                exact ⟨by first | rfl | (simp [errW_none, errW_some] <;> rfl) | (simp [*, errW_none, errW_some] <;> rfl), by repeat (first | (with_reducible first | exact HB.out | apply below_alloc | apply pw_below_drewN | apply below_drew1) | exact HB.out)⟩
              · replace c17 := Bool.eq_false_iff.mpr c17
                subst c17
                have H1 : ((majordomoref11_digit.f (bt a0 0)).bind fun t104 => (if t104 = true then (majordomoref11_reach.l1 kj10 a0 1) else ((majordomoref11_small.f (bt a0 0)).bind fun t106 => (if t106 = true then (majordomoref11_reach.j4 kj10 a0 (bt a0 0) 1 t106) else (if (bt a0 0) ≥ 65 then (if (bt a0 0) ≤ 90 then (majordomoref11_reach.j4 kj10 a0 (bt a0 0) 1 (decide ((bt a0 0) ≤ 90))) else (majordomoref11_reach.j4 kj10 a0 (bt a0 0) 1 ((bt a0 0) == 36))) else (majordomoref11_reach.j4 kj10 a0 (bt a0 0) 1 ((bt a0 0) == 36))))))) = some r := by rw [if_neg (show ¬ (false = true) by decide)] at H; exact H
                clear H
                have H := H1
                clear H1
                replace H := Option.bind_eq_some_iff.mp H
                obtain ⟨t104, A180, H⟩ := H
                replace H : (if t104 = true then (majordomoref11_reach.l1 kj10 a0 1) else ((majordomoref11_small.f (bt a0 0)).bind fun t106 => (if t106 = true then (majordomoref11_reach.j4 kj10 a0 (bt a0 0) 1 t106) else (if (bt a0 0) ≥ 65 then (if (bt a0 0) ≤ 90 then (majordomoref11_reach.j4 kj10 a0 (bt a0 0) 1 (decide ((bt a0 0) ≤ 90))) else (majordomoref11_reach.j4 kj10 a0 (bt a0 0) 1 ((bt a0 0) == 36))) else (majordomoref11_reach.j4 kj10 a0 (bt a0 0) 1 ((bt a0 0) == 36)))))) = some r := H
                have A18 := Aside0.mk A180
                clear A180
                by_cases c19 : t104 = true
                · subst c19
                  have H1 : (majordomoref11_reach.l1 kj10 a0 1) = some r := by rw [if_pos rfl] at H; exact H
                  clear H
                  have H := H1
                  clear H1
                  have H' := Aside0.mk H
                  clear H
                  go_wp2_with (first | ((with_reducible refine gate_callee (f := 29) rfl ?_); refine goesL_ (some 45) rfl rfl Try.func29 (by kernel_rfl) rfl #[.int .u8 (bt a0 0)] rfl (by (try simp only [List.map_toArray, List.map_cons, List.map_nil]); first | done | rfl | (simp only [List.length_drop, List.length_take]; rfl)) ?_; (with_reducible refine (majordomoref11_digit.calls (bt a0 0) true _ A18.out).mono ?_); rintro e w' ⟨rfl, ⟨nd, rfl⟩⟩; refine ⟨_, rfl, ?_⟩))
                  go_loopg [5] kj10 (fun kq v5 w' => ∃ (x5_3 : Int), v5 = .int .i64 x5_3 ∧ Aside0 (majordomoref11_reach.l1 kq a0 x5_3 = some r) ∧ Aside0 (kq ≤ kj10) ∧ Aside0 (Below w.heap.size w w'))
                  case atStart => exact ⟨(1), (by first | rfl | (simp; done) | (simp [*]; done)), H', ⟨Nat.le_refl _⟩, ⟨by repeat (first | (with_reducible first | exact HB.out | apply below_alloc | apply pw_below_drewN | apply below_drew1) | exact HB.out)⟩⟩
                  case round =>
                    clear H'
                    try clear c1
                    try clear p1
                    try clear q1
                    try clear hx1
                    try clear qi1
                    try clear c2
                    try clear c2b0
                    try clear c2b1
                    try clear p2
                    try clear p3
                    try clear q3
                    try clear hx3
                    try clear qi3
                    try clear c5
                    try clear c5b0
                    try clear c5b1
                    try clear c6
                    try clear p6
                    try clear c7
                    try clear c7b0
                    try clear c8
                    try clear c8b0
                    try clear p9
                    try clear q9
                    try clear hx9
                    try clear c10
                    try clear c10b0
                    try clear c10b1
                    try clear c12
                    try clear c12b0
                    try clear c12b1
                    try clear c13
                    try clear c13b0
                    try clear c13b1
                    try clear c14
                    try clear c14b0
                    try clear c14b1
                    try clear c15
                    try clear p15
                    try clear q15
                    try clear hx15
                    try clear qi15
                    try clear c17
                    try clear c19
                    try clear p1
                    try clear p15
                    try clear p2
                    try clear p3
                    try clear p6
                    try clear p9
                    try clear q1
                    try clear q15
                    try clear q3
                    try clear q9
                    obtain ⟨x5_3, rfl, HA, HK3, HB⟩ := hrel
                    cases gk with
                    | zero => exact absurd HA.out (by simp [majordomoref11_reach.l1])
                    | succ k3 =>
                      have H := HA.out
                      clear HA
                      simp only [majordomoref11_reach.l1] at H
                      by_cases c20 : x5_3 < (a0.size : Int)
                      · rw [if_pos c20] at H
                        have c20b0 : decide (x5_3 < (a0.size : Int)) = true := decide_eq_true c20
                        clear c20
                        by_cases c21 : 0 ≤ x5_3
                        · rw [if_pos c21] at H
                          have c21b0 : decide (0 ≤ x5_3) = true := decide_eq_true c21
                          clear c21
                          replace H := Option.bind_eq_some_iff.mp H
                          obtain ⟨t105, A230, H⟩ := H
                          replace H : (if t105 = true then (majordomoref11_reach.l1 k3 a0 (wrap64 (x5_3 + 1))) else (some x5_3)) = some r := H
                          have A23 := Aside0.mk A230
                          clear A230
                          by_cases c24 : t105 = true
                          · subst c24
                            have H1 : (majordomoref11_reach.l1 k3 a0 (wrap64 (x5_3 + 1))) = some r := by rw [if_pos rfl] at H; exact H
                            clear H
                            have H := H1
                            clear H1
                            have H' := Aside0.mk H
                            clear H
                            have p22 : 0 ≤ (x5_3 : Int) := of_decide_eq_true (by first | (with_reducible assumption) | assumption)
                            have q22 : x5_3 < (a0.size : Int) := of_decide_eq_true (by first | (with_reducible assumption) | assumption)
                            have hx22 := bt_at a0 x5_3
                            replace p22 := eq_true p22
                            replace q22 := eq_true q22
                            go_wp2_with (first | (go_at_call 29; (with_reducible refine (majordomoref11_digit.calls (bt a0 x5_3) true _ A23.out).mono ?_); rintro e w' ⟨rfl, ⟨nd, rfl⟩⟩))
                            go_roundg k3
                            case measure => have := HJ3.out; have := HJ10.out; have := HK3.out; omega
                            case rel => exact ⟨(wrap64 (x5_3 + 1)), (by first | rfl | (simp; done) | (simp [*]; done)), H', ⟨by have := HJ3.out; have := HJ10.out; have := HK3.out; omega⟩, ⟨by repeat (first | (with_reducible first | exact HB.out | apply below_alloc | apply pw_below_drewN | apply below_drew1) | exact HB.out)⟩⟩
                          · replace c24 := Bool.eq_false_iff.mpr c24
                            subst c24
                            have H1 : (some x5_3) = some r := by rw [if_neg (show ¬ (false = true) by decide)] at H; exact H
                            clear H
                            have H := H1
                            clear H1
                            obtain rfl := Option.some.inj H
                            have p22 : 0 ≤ (x5_3 : Int) := of_decide_eq_true (by first | (with_reducible assumption) | assumption)
                            have q22 : x5_3 < (a0.size : Int) := of_decide_eq_true (by first | (with_reducible assumption) | assumption)
                            have hx22 := bt_at a0 x5_3
                            replace p22 := eq_true p22
                            replace q22 := eq_true q22
                            go_wp2_with (first | (go_at_call 29; (with_reducible refine (majordomoref11_digit.calls (bt a0 x5_3) false _ A23.out).mono ?_); rintro e w' ⟨rfl, ⟨nd, rfl⟩⟩))
                            go_ret
                            exact ⟨by first | rfl | (simp [errW_none, errW_some] <;> rfl) | (simp [*, errW_none, errW_some] <;> rfl), by repeat (first | (with_reducible first | exact HB.out | apply below_alloc | apply pw_below_drewN | apply below_drew1) | exact HB.out)⟩
                        · rw [if_neg c21] at H
                          exact absurd H (by simp)
                      · rw [if_neg c20] at H
                        have c20b0 : decide (x5_3 < (a0.size : Int)) = false := decide_eq_false c20
                        clear c20
                        obtain rfl := Option.some.inj H
                        go_wp2
                        go_ret
                        exact ⟨by first | rfl | (simp [errW_none, errW_some] <;> rfl) | (simp [*, errW_none, errW_some] <;> rfl), by repeat (first | (with_reducible first | exact HB.out | apply below_alloc | apply pw_below_drewN | apply below_drew1) | exact HB.out)⟩
                · replace c19 := Bool.eq_false_iff.mpr c19
                  subst c19
                  have H1 : ((majordomoref11_small.f (bt a0 0)).bind fun t106 => (if t106 = true then (majordomoref11_reach.j4 kj10 a0 (bt a0 0) 1 t106) else (if (bt a0 0) ≥ 65 then (if (bt a0 0) ≤ 90 then (majordomoref11_reach.j4 kj10 a0 (bt a0 0) 1 (decide ((bt a0 0) ≤ 90))) else (majordomoref11_reach.j4 kj10 a0 (bt a0 0) 1 ((bt a0 0) == 36))) else (majordomoref11_reach.j4 kj10 a0 (bt a0 0) 1 ((bt a0 0) == 36))))) = some r := by rw [if_neg (show ¬ (false = true) by decide)] at H; exact H
                  clear H
                  have H := H1
                  clear H1
                  replace H := Option.bind_eq_some_iff.mp H
                  obtain ⟨t106, A250, H⟩ := H
                  replace H : (if t106 = true then (majordomoref11_reach.j4 kj10 a0 (bt a0 0) 1 t106) else (if (bt a0 0) ≥ 65 then (if (bt a0 0) ≤ 90 then (majordomoref11_reach.j4 kj10 a0 (bt a0 0) 1 (decide ((bt a0 0) ≤ 90))) else (majordomoref11_reach.j4 kj10 a0 (bt a0 0) 1 ((bt a0 0) == 36))) else (majordomoref11_reach.j4 kj10 a0 (bt a0 0) 1 ((bt a0 0) == 36)))) = some r := H
                  have A25 := Aside0.mk A250
                  clear A250
                  have HC26 := Aside0.mk H
                  clear H
                  go_upto_if 58 with (first | ((with_reducible refine gate_callee (f := 29) rfl ?_); refine goesL_ (some 45) rfl rfl Try.func29 (by kernel_rfl) rfl #[.int .u8 (bt a0 0)] rfl (by (try simp only [List.map_toArray, List.map_cons, List.map_nil]); first | done | rfl | (simp only [List.length_drop, List.length_take]; rfl)) ?_; (with_reducible refine (majordomoref11_digit.calls (bt a0 0) false _ A18.out).mono ?_); rintro e w' ⟨rfl, ⟨nd, rfl⟩⟩; refine ⟨_, rfl, ?_⟩) | ((with_reducible refine gate_callee (f := 28) rfl ?_); refine goesL_ (some 60) rfl rfl Try.func28 (by kernel_rfl) rfl #[.int .u8 (bt a0 0)] rfl (by (try simp only [List.map_toArray, List.map_cons, List.map_nil]); first | done | rfl | (simp only [List.length_drop, List.length_take]; rfl)) ?_; (with_reducible refine (majordomoref11_small.calls (bt a0 0) t106 _ A25.out).mono ?_); rintro e w' ⟨rfl, ⟨nd, rfl⟩⟩; refine ⟨_, rfl, ?_⟩))
                  (try simp only [Act.put, List.setIfInBounds_toArray, List.set_cons_zero, List.set_cons_succ])
                  go_cut [58] (fun v58 wc => ∃ (kq : Nat) (x58_25 : Bool), v58 = .bool x58_25 ∧ Aside0 (majordomoref11_reach.j4 kq a0 (bt a0 0) 1 x58_25 = some r) ∧ Aside0 (kq ≤ kj10) ∧ Aside0 (Below w.heap.size w wc))
                  case first =>
                    have H := HC26.out
                    clear HC26
                    by_cases c27 : t106 = true
                    · subst c27
                      have H1 : (majordomoref11_reach.j4 kj10 a0 (bt a0 0) 1 true) = some r := by rw [if_pos rfl] at H; exact H
                      clear H
                      have H := H1
                      clear H1
                      have H' := Aside0.mk H
                      clear H
                      go_wp2
                      go_meet
                      case rel => exact ⟨_, (true), (by first | rfl | (simp; done) | (simp [*]; done)), H', ⟨by have := HJ3.out; have := HJ10.out; first | omega | exact Nat.le_refl _⟩, ⟨by repeat (first | (with_reducible first | exact HB.out | apply below_alloc | apply pw_below_drewN | apply below_drew1) | exact HB.out)⟩⟩
                    · replace c27 := Bool.eq_false_iff.mpr c27
                      subst c27
                      have H1 : (if (bt a0 0) ≥ 65 then (if (bt a0 0) ≤ 90 then (majordomoref11_reach.j4 kj10 a0 (bt a0 0) 1 (decide ((bt a0 0) ≤ 90))) else (majordomoref11_reach.j4 kj10 a0 (bt a0 0) 1 ((bt a0 0) == 36))) else (majordomoref11_reach.j4 kj10 a0 (bt a0 0) 1 ((bt a0 0) == 36))) = some r := by rw [if_neg (show ¬ (false = true) by decide)] at H; exact H
                      clear H
                      have H := H1
                      clear H1
                      by_cases c28 : (bt a0 0) ≥ 65
                      · rw [if_pos c28] at H
                        have c28b0 : decide (65 ≤ (bt a0 0)) = true := decide_eq_true c28
                        clear c28
                        (first | rw [c28b0] | (simp only [i64_w, i32_w]; rw [c28b0]) | skip)
                        by_cases c29 : (bt a0 0) ≤ 90
                        · rw [if_pos c29] at H
                          have c29b0 : decide ((bt a0 0) ≤ 90) = true := decide_eq_true c29
                          clear c29
                          have H' := Aside0.mk H
                          clear H
                          go_wp2
                          go_meet
                          case rel => exact ⟨_, (decide ((bt a0 0) ≤ 90)), (by first | rfl | (simp; done) | (simp [*]; done)), H', ⟨by have := HJ3.out; have := HJ10.out; first | omega | exact Nat.le_refl _⟩, ⟨by repeat (first | (with_reducible first | exact HB.out | apply below_alloc | apply pw_below_drewN | apply below_drew1) | exact HB.out)⟩⟩
                        · rw [if_neg c29] at H
                          have c29b0 : decide ((bt a0 0) ≤ 90) = false := decide_eq_false c29
                          clear c29
                          have H' := Aside0.mk H
                          clear H
                          go_wp2
                          go_meet
                          case rel => exact ⟨_, (((bt a0 0) == 36)), (by first | rfl | (simp; done) | (simp [*]; done)), H', ⟨by have := HJ3.out; have := HJ10.out; first | omega | exact Nat.le_refl _⟩, ⟨by repeat (first | (with_reducible first | exact HB.out | apply below_alloc | apply pw_below_drewN | apply below_drew1) | exact HB.out)⟩⟩
                      · rw [if_neg c28] at H
                        have c28b0 : decide (65 ≤ (bt a0 0)) = false := decide_eq_false c28
                        clear c28
                        (first | rw [c28b0] | (simp only [i64_w, i32_w]; rw [c28b0]) | skip)
                        have H' := Aside0.mk H
                        clear H
                        go_wp2
                        go_meet
                        case rel => exact ⟨_, (((bt a0 0) == 36)), (by first | rfl | (simp; done) | (simp [*]; done)), H', ⟨by have := HJ3.out; have := HJ10.out; first | omega | exact Nat.le_refl _⟩, ⟨by repeat (first | (with_reducible first | exact HB.out | apply below_alloc | apply pw_below_drewN | apply below_drew1) | exact HB.out)⟩⟩
                  case rest =>
                    clear HC26
                    try clear c1
                    try clear p1
                    try clear q1
                    try clear hx1
                    try clear qi1
                    try clear c2
                    try clear c2b0
                    try clear c2b1
                    try clear p2
                    try clear q2
                    try clear hx2
                    try clear p3
                    try clear q3
                    try clear hx3
                    try clear qi3
                    try clear c5
                    try clear c5b0
                    try clear c5b1
                    try clear c6
                    try clear p6
                    try clear c7
                    try clear c7b0
                    try clear c8
                    try clear c8b0
                    try clear p9
                    try clear q9
                    try clear hx9
                    try clear c10
                    try clear c10b0
                    try clear c10b1
                    try clear c12
                    try clear c12b0
                    try clear c12b1
                    try clear c13
                    try clear c13b0
                    try clear c13b1
                    try clear c14
                    try clear c14b0
                    try clear c14b1
                    try clear c15
                    try clear p15
                    try clear q15
                    try clear hx15
                    try clear qi15
                    try clear c17
                    try clear c19
                    try clear c20
                    try clear c20b0
                    try clear c21
                    try clear c21b0
                    try clear p22
                    try clear q22
                    try clear hx22
                    try clear c24
                    try clear c27
                    try clear c28
                    try clear c28b0
                    try clear c29
                    try clear c29b0
                    try clear p1
                    try clear p15
                    try clear p2
                    try clear p22
                    try clear p3
                    try clear p6
                    try clear p9
                    try clear q1
                    try clear q15
                    try clear q22
                    try clear q3
                    try clear q9
                    obtain ⟨kq, x58_25, rfl, HA, HJ25, HB⟩ := hcut
                    cases kq with
                    | zero => exact absurd HA.out (by simp [majordomoref11_reach.j4])
                    | succ kj25 =>
                      have H := HA.out
                      clear HA
                      simp only [majordomoref11_reach.j4] at H
                      by_cases c30 : x58_25 = true
                      · subst c30
                        have H1 : (majordomoref11_reach.l2 kj25 a0 (bt a0 0) 1) = some r := by rw [if_pos rfl] at H; exact H
                        clear H
                        have H := H1
                        clear H1
                        have HC31 := Aside0.mk H
                        clear H
                        go_upto_block 5 with (fail)
                        go_cut [5] (fun v5 wc => ∃ (kq : Nat) (x5_30 : Int), v5 = .int .i64 x5_30 ∧ Aside0 (majordomoref11_reach.j6 kq a0 (bt a0 0) x5_30 = some r) ∧ Aside0 (kq ≤ kj25) ∧ Aside0 (Below w.heap.size w wc))
                        case first =>
                          have H := HC31.out
                          clear HC31
                          have H' := Aside0.mk H
                          clear H
                          go_wp2
                          go_loopg [5] kj25 (fun kq v5 w' => ∃ (x5_4 : Int), v5 = .int .i64 x5_4 ∧ Aside0 (majordomoref11_reach.l2 kq a0 (bt a0 0) x5_4 = some r) ∧ Aside0 (kq ≤ kj25) ∧ Aside0 (Below w.heap.size w w'))
                          case atStart => exact ⟨(1), (by first | rfl | (simp; done) | (simp [*]; done)), H', ⟨Nat.le_refl _⟩, ⟨by repeat (first | (with_reducible first | exact HB.out | apply below_alloc | apply pw_below_drewN | apply below_drew1) | exact HB.out)⟩⟩
                          case round =>
                            clear H'
                            try clear c1
                            try clear p1
                            try clear q1
                            try clear hx1
                            try clear qi1
                            try clear c2
                            try clear c2b0
                            try clear c2b1
                            try clear p2
                            try clear q2
                            try clear hx2
                            try clear c3
                            try clear p3
                            try clear q3
                            try clear hx3
                            try clear qi3
                            try clear c5
                            try clear c5b0
                            try clear c5b1
                            try clear c6
                            try clear p6
                            try clear c7
                            try clear c7b0
                            try clear c8
                            try clear c8b0
                            try clear p9
                            try clear q9
                            try clear hx9
                            try clear c10
                            try clear c10b0
                            try clear c10b1
                            try clear c12
                            try clear c12b0
                            try clear c12b1
                            try clear c13
                            try clear c13b0
                            try clear c13b1
                            try clear c14
                            try clear c14b0
                            try clear c14b1
                            try clear c15
                            try clear p15
                            try clear q15
                            try clear hx15
                            try clear qi15
                            try clear c17
                            try clear c19
                            try clear c20
                            try clear c20b0
                            try clear c21
                            try clear c21b0
                            try clear p22
                            try clear q22
                            try clear hx22
                            try clear c24
                            try clear c27
                            try clear c28
                            try clear c28b0
                            try clear c29
                            try clear c29b0
                            try clear c30
                            try clear p1
                            try clear p15
                            try clear p2
                            try clear p22
                            try clear p3
                            try clear p6
                            try clear p9
                            try clear q1
                            try clear q15
                            try clear q2
                            try clear q22
                            try clear q3
                            try clear q9
                            obtain ⟨x5_4, rfl, HA, HK4, HB⟩ := hrel
                            cases gk with
                            | zero => exact absurd HA.out (by simp [majordomoref11_reach.l2])
                            | succ k4 =>
                              have H := HA.out
                              clear HA
                              simp only [majordomoref11_reach.l2] at H
                              by_cases c32 : x5_4 < (a0.size : Int)
                              · rw [if_pos c32] at H
                                have c32b0 : decide (x5_4 < (a0.size : Int)) = true := decide_eq_true c32
                                clear c32
                                (first | rw [c32b0] | (simp only [i64_w, i32_w]; rw [c32b0]) | skip)
                                by_cases c33 : 0 ≤ x5_4
                                · rw [if_pos c33] at H
                                  have c33b0 : decide (0 ≤ x5_4) = true := decide_eq_true c33
                                  clear c33
                                  replace H := Option.bind_eq_some_iff.mp H
                                  obtain ⟨t107, A350, H⟩ := H
                                  replace H : (if t107 = true then (majordomoref11_reach.l2 k4 a0 (bt a0 0) (wrap64 (x5_4 + 1))) else (majordomoref11_reach.j6 k4 a0 (bt a0 0) x5_4)) = some r := H
                                  have A35 := Aside0.mk A350
                                  clear A350
                                  by_cases c36 : t107 = true
                                  · subst c36
                                    have H1 : (majordomoref11_reach.l2 k4 a0 (bt a0 0) (wrap64 (x5_4 + 1))) = some r := by rw [if_pos rfl] at H; exact H
                                    clear H
                                    have H := H1
                                    clear H1
                                    have H' := Aside0.mk H
                                    clear H
                                    have p34 : 0 ≤ (x5_4 : Int) := of_decide_eq_true (by first | (with_reducible assumption) | assumption)
                                    have q34 : x5_4 < (a0.size : Int) := of_decide_eq_true (by first | (with_reducible assumption) | assumption)
                                    have hx34 := bt_at a0 x5_4
                                    replace p34 := eq_true p34
                                    replace q34 := eq_true q34
                                    go_wp2_with (first | (go_at_call 30; (with_reducible refine (majordomoref11_tail.calls (bt a0 x5_4) true _ A35.out).mono ?_); rintro e w' ⟨rfl, ⟨nd, rfl⟩⟩))
                                    go_roundg k4
                                    case measure => have := HJ3.out; have := HJ10.out; have := HJ25.out; have := HK4.out; omega
                                    case rel => exact ⟨(wrap64 (x5_4 + 1)), (by first | rfl | (simp; done) | (simp [*]; done)), H', ⟨by have := HJ3.out; have := HJ10.out; have := HJ25.out; have := HK4.out; omega⟩, ⟨by repeat (first | (with_reducible first | exact HB.out | apply below_alloc | apply pw_below_drewN | apply below_drew1) | exact HB.out)⟩⟩
                                  · replace c36 := Bool.eq_false_iff.mpr c36
                                    subst c36
                                    have H1 : (majordomoref11_reach.j6 k4 a0 (bt a0 0) x5_4) = some r := by rw [if_neg (show ¬ (false = true) by decide)] at H; exact H
                                    clear H
                                    have H := H1
                                    clear H1
                                    have H' := Aside0.mk H
                                    clear H
                                    have p34 : 0 ≤ (x5_4 : Int) := of_decide_eq_true (by first | (with_reducible assumption) | assumption)
                                    have q34 : x5_4 < (a0.size : Int) := of_decide_eq_true (by first | (with_reducible assumption) | assumption)
                                    have hx34 := bt_at a0 x5_4
                                    replace p34 := eq_true p34
                                    replace q34 := eq_true q34
                                    go_wp2_with (first | (go_at_call 30; (with_reducible refine (majordomoref11_tail.calls (bt a0 x5_4) false _ A35.out).mono ?_); rintro e w' ⟨rfl, ⟨nd, rfl⟩⟩))
                                    go_meet
                                    case rel => exact ⟨_, (x5_4), (by first | rfl | (simp; done) | (simp [*]; done)), H', ⟨by have := HJ3.out; have := HJ10.out; have := HJ25.out; have := HK4.out; first | omega | exact Nat.le_refl _⟩, ⟨by repeat (first | (with_reducible first | exact HB.out | apply below_alloc | apply pw_below_drewN | apply below_drew1) | exact HB.out)⟩⟩
                                · rw [if_neg c33] at H
                                  exact absurd H (by simp)
                              · rw [if_neg c32] at H
                                have c32b0 : decide (x5_4 < (a0.size : Int)) = false := decide_eq_false c32
                                clear c32
                                (first | rw [c32b0] | (simp only [i64_w, i32_w]; rw [c32b0]) | skip)
                                have H' := Aside0.mk H
                                clear H
                                go_wp2
                                go_meet
                                case rel => exact ⟨_, (x5_4), (by first | rfl | (simp; done) | (simp [*]; done)), H', ⟨by have := HJ3.out; have := HJ10.out; have := HJ25.out; have := HK4.out; first | omega | exact Nat.le_refl _⟩, ⟨by repeat (first | (with_reducible first | exact HB.out | apply below_alloc | apply pw_below_drewN | apply below_drew1) | exact HB.out)⟩⟩
                        case rest =>
                          clear HC31
                          try clear c1
                          try clear p1
                          try clear q1
                          try clear hx1
                          try clear qi1
                          try clear c2
                          try clear c2b0
                          try clear c2b1
                          try clear p2
                          try clear q2
                          try clear hx2
                          try clear c3
                          try clear p3
                          try clear q3
                          try clear hx3
                          try clear qi3
                          try clear c5
                          try clear c5b0
                          try clear c5b1
                          try clear c6
                          try clear p6
                          try clear c7
                          try clear c7b0
                          try clear c8
                          try clear c8b0
                          try clear p9
                          try clear q9
                          try clear hx9
                          try clear c10
                          try clear c10b0
                          try clear c10b1
                          try clear c12
                          try clear c12b0
                          try clear c12b1
                          try clear c13
                          try clear c13b0
                          try clear c13b1
                          try clear c14
                          try clear c14b0
                          try clear c14b1
                          try clear c15
                          try clear p15
                          try clear q15
                          try clear hx15
                          try clear qi15
                          try clear c17
                          try clear c19
                          try clear c20
                          try clear c20b0
                          try clear c21
                          try clear c21b0
                          try clear p22
                          try clear q22
                          try clear hx22
                          try clear c24
                          try clear c27
                          try clear c28
                          try clear c28b0
                          try clear c29
                          try clear c29b0
                          try clear c30
                          try clear c32
                          try clear c32b0
                          try clear c33
                          try clear c33b0
                          try clear p34
                          try clear q34
                          try clear hx34
                          try clear c36
                          try clear p1
                          try clear p15
                          try clear p2
                          try clear p22
                          try clear p3
                          try clear p34
                          try clear p6
                          try clear p9
                          try clear q1
                          try clear q15
                          try clear q2
                          try clear q22
                          try clear q3
                          try clear q34
                          try clear q9
                          obtain ⟨kq, x5_30, rfl, HA, HJ30, HB⟩ := hcut
                          cases kq with
                          | zero => exact absurd HA.out (by simp [majordomoref11_reach.j6])
                          | succ kj30 =>
                            have H := HA.out
                            clear HA
                            simp only [majordomoref11_reach.j6] at H
                            have H' := Aside0.mk H
                            clear H
                            go_wp2
                            go_loopg [5] kj30 (fun kq v5 w' => ∃ (x5_5 : Int), v5 = .int .i64 x5_5 ∧ Aside0 (majordomoref11_reach.l3 kq a0 (bt a0 0) x5_5 = some r) ∧ Aside0 (kq ≤ kj30) ∧ Aside0 (Below w.heap.size w w'))
                            case atStart => exact ⟨(x5_30), (by first | rfl | (simp; done) | (simp [*]; done)), H', ⟨Nat.le_refl _⟩, ⟨by repeat (first | (with_reducible first | exact HB.out | apply below_alloc | apply pw_below_drewN | apply below_drew1) | exact HB.out)⟩⟩
                            case round =>
                              clear H'
                              try clear c1
                              try clear p1
                              try clear q1
                              try clear hx1
                              try clear qi1
                              try clear c2
                              try clear c2b0
                              try clear c2b1
                              try clear p2
                              try clear q2
                              try clear hx2
                              try clear c3
                              try clear p3
                              try clear q3
                              try clear hx3
                              try clear qi3
                              try clear c5
                              try clear c5b0
                              try clear c5b1
                              try clear c6
                              try clear p6
                              try clear c7
                              try clear c7b0
                              try clear c8
                              try clear c8b0
                              try clear p9
                              try clear q9
                              try clear hx9
                              try clear c10
                              try clear c10b0
                              try clear c10b1
                              try clear c12
                              try clear c12b0
                              try clear c12b1
                              try clear c13
                              try clear c13b0
                              try clear c13b1
                              try clear c14
                              try clear c14b0
                              try clear c14b1
                              try clear c15
                              try clear p15
                              try clear q15
                              try clear hx15
                              try clear qi15
                              try clear c17
                              try clear c19
                              try clear c20
                              try clear c20b0
                              try clear c21
                              try clear c21b0
                              try clear p22
                              try clear q22
                              try clear hx22
                              try clear c24
                              try clear c27
                              try clear c28
                              try clear c28b0
                              try clear c29
                              try clear c29b0
                              try clear c30
                              try clear c32
                              try clear c32b0
                              try clear c33
                              try clear c33b0
                              try clear p34
                              try clear q34
                              try clear hx34
                              try clear c36
                              try clear p1
                              try clear p15
                              try clear p2
                              try clear p22
                              try clear p3
                              try clear p34
                              try clear p6
                              try clear p9
                              try clear q1
                              try clear q15
                              try clear q2
                              try clear q22
                              try clear q3
                              try clear q34
                              try clear q9
                              obtain ⟨x5_5, rfl, HA, HK5, HB⟩ := hrel
                              cases gk with
                              | zero => exact absurd HA.out (by simp [majordomoref11_reach.l3])
                              | succ k5 =>
                                have H := HA.out
                                clear HA
                                simp only [majordomoref11_reach.l3] at H
                                have HC37 := Aside0.mk H
                                clear H
                                go_upto_region 21 with (fail)
                                go_cut [109] (fun v109 wc => ∃ (kq : Nat) (x109_36 : Bool), v109 = .bool x109_36 ∧ Aside0 (majordomoref11_reach.j8 kq a0 (bt a0 0) x5_5 x109_36 = some r) ∧ Aside0 (kq ≤ k5) ∧ Aside0 (Below w.heap.size w wc))
                                case first =>
                                  have H := HC37.out
                                  clear HC37
                                  replace H := Option.bind_eq_some_iff.mp H
                                  obtain ⟨t108, A380, H⟩ := H
                                  replace H : (if t108 = true then (if (wrap64 (x5_5 + 2)) < (a0.size : Int) then (if 0 ≤ x5_5 then (if x5_5 < (a0.size : Int) then (if (bt a0 x5_5) = 58 then (if 0 ≤ (wrap64 (x5_5 + 1)) then (if (wrap64 (x5_5 + 1)) < (a0.size : Int) then (if (bt a0 (wrap64 (x5_5 + 1))) = 58 then (if 0 ≤ (wrap64 (x5_5 + 2)) then ((majordomoref11_small.f (bt a0 (wrap64 (x5_5 + 2)))).bind fun t109 => (majordomoref11_reach.j8 k5 a0 (bt a0 0) x5_5 t109)) else (none)) else (majordomoref11_reach.j8 k5 a0 (bt a0 0) x5_5 false)) else (none)) else (none)) else (majordomoref11_reach.j8 k5 a0 (bt a0 0) x5_5 false)) else (none)) else (none)) else (majordomoref11_reach.j8 k5 a0 (bt a0 0) x5_5 false)) else (majordomoref11_reach.j8 k5 a0 (bt a0 0) x5_5 false)) = some r := H
                                  have A38 := Aside0.mk A380
                                  clear A380
                                  by_cases c39 : t108 = true
                                  · subst c39
                                    have H1 : (if (wrap64 (x5_5 + 2)) < (a0.size : Int) then (if 0 ≤ x5_5 then (if x5_5 < (a0.size : Int) then (if (bt a0 x5_5) = 58 then (if 0 ≤ (wrap64 (x5_5 + 1)) then (if (wrap64 (x5_5 + 1)) < (a0.size : Int) then (if (bt a0 (wrap64 (x5_5 + 1))) = 58 then (if 0 ≤ (wrap64 (x5_5 + 2)) then ((majordomoref11_small.f (bt a0 (wrap64 (x5_5 + 2)))).bind fun t109 => (majordomoref11_reach.j8 k5 a0 (bt a0 0) x5_5 t109)) else (none)) else (majordomoref11_reach.j8 k5 a0 (bt a0 0) x5_5 false)) else (none)) else (none)) else (majordomoref11_reach.j8 k5 a0 (bt a0 0) x5_5 false)) else (none)) else (none)) else (majordomoref11_reach.j8 k5 a0 (bt a0 0) x5_5 false)) = some r := by rw [if_pos rfl] at H; exact H
                                    clear H
                                    have H := H1
                                    clear H1
                                    by_cases c40 : (wrap64 (x5_5 + 2)) < (a0.size : Int)
                                    · rw [if_pos c40] at H
                                      have c40b0 : decide ((wrap64 (x5_5 + 2)) < (a0.size : Int)) = true := decide_eq_true c40
                                      clear c40
                                      (first | rw [c40b0] | (simp only [i64_w, i32_w]; rw [c40b0]) | skip)
                                      by_cases c41 : 0 ≤ x5_5
                                      · rw [if_pos c41] at H
                                        have c41b0 : decide (0 ≤ x5_5) = true := decide_eq_true c41
                                        clear c41
                                        by_cases c42 : x5_5 < (a0.size : Int)
                                        · rw [if_pos c42] at H
                                          have c42b0 : decide (x5_5 < (a0.size : Int)) = true := decide_eq_true c42
                                          clear c42
                                          by_cases c44 : (bt a0 x5_5) = 58
                                          · rw [if_pos c44] at H
                                            have c44b0 : ((bt a0 x5_5) == 58) = true := beq_iff_eq.mpr c44
                                            have c44b1 : ((bt a0 x5_5) != 58) = false := bne_eq_false_iff_eq.mpr c44
                                            clear c44
                                            obtain ⟨ji45, hji45⟩ : ∃ j_ : Int, (wrap64 (x5_5 + 1)) = j_ := ⟨_, rfl⟩
                                            replace H : (if 0 ≤ (ji45) then (if (ji45) < (a0.size : Int) then (if (bt a0 (ji45)) = 58 then (if 0 ≤ (wrap64 (x5_5 + 2)) then ((majordomoref11_small.f (bt a0 (wrap64 (x5_5 + 2)))).bind fun t109 => (majordomoref11_reach.j8 k5 a0 (bt a0 0) x5_5 t109)) else (none)) else (majordomoref11_reach.j8 k5 a0 (bt a0 0) x5_5 false)) else (none)) else (none)) = some r := by first | (rw [hji45] at H; exact H) | (simp only [hji45] at H ⊢; exact H)
                                            (try rw [hji45] at A38)
                                            have hji45w : (IntKind.i64.wrap (x5_5 + 1)) = ji45 := (i64_w _).trans hji45
                                            by_cases c46 : 0 ≤ (ji45)
                                            · rw [if_pos c46] at H
                                              have c46b0 : decide (0 ≤ (ji45)) = true := decide_eq_true c46
                                              clear c46
                                              by_cases c47 : (ji45) < (a0.size : Int)
                                              · rw [if_pos c47] at H
                                                have c47b0 : decide ((ji45) < (a0.size : Int)) = true := decide_eq_true c47
                                                clear c47
                                                by_cases c49 : (bt a0 (ji45)) = 58
                                                · rw [if_pos c49] at H
                                                  have c49b0 : ((bt a0 (ji45)) == 58) = true := beq_iff_eq.mpr c49
                                                  have c49b1 : ((bt a0 (ji45)) != 58) = false := bne_eq_false_iff_eq.mpr c49
                                                  clear c49
                                                  obtain ⟨ji50, hji50⟩ : ∃ j_ : Int, (wrap64 (x5_5 + 2)) = j_ := ⟨_, rfl⟩
                                                  replace H : (if 0 ≤ (ji50) then ((majordomoref11_small.f (bt a0 (ji50))).bind fun t109 => (majordomoref11_reach.j8 k5 a0 (bt a0 0) x5_5 t109)) else (none)) = some r := by first | (rw [hji50] at H; exact H) | (simp only [hji50] at H ⊢; exact H)
                                                  (try rw [hji50] at c40b0)
                                                  (try rw [hji50] at A38)
                                                  have hji50w : (IntKind.i64.wrap (x5_5 + 2)) = ji50 := (i64_w _).trans hji50
                                                  by_cases c51 : 0 ≤ (ji50)
                                                  · rw [if_pos c51] at H
                                                    have c51b0 : decide (0 ≤ (ji50)) = true := decide_eq_true c51
                                                    clear c51
                                                    replace H := Option.bind_eq_some_iff.mp H
                                                    obtain ⟨t109, A530, H⟩ := H
                                                    replace H : (majordomoref11_reach.j8 k5 a0 (bt a0 0) x5_5 t109) = some r := H
                                                    have A53 := Aside0.mk A530
                                                    clear A530
                                                    have H' := Aside0.mk H
                                                    clear H
                                                    go_wp2_with (first | ((with_reducible refine gate_callee (f := 28) rfl ?_); refine goesL_ (some 82) rfl rfl Try.func28 (by kernel_rfl) rfl #[.int .u8 (bt a0 0)] rfl (by (try simp only [List.map_toArray, List.map_cons, List.map_nil]); first | done | rfl | (simp only [List.length_drop, List.length_take]; rfl)) ?_; (with_reducible refine (majordomoref11_small.calls (bt a0 0) true _ A38.out).mono ?_); rintro e w' ⟨rfl, ⟨nd, rfl⟩⟩; refine ⟨_, rfl, ?_⟩; have p43 : 0 ≤ (x5_5 : Int) := of_decide_eq_true (by first | (with_reducible assumption) | assumption); have q43 : x5_5 < (a0.size : Int) := of_decide_eq_true (by first | (with_reducible assumption) | assumption); have hx43 := bt_at a0 x5_5; replace p43 := eq_true p43; replace q43 := eq_true q43; have p48 : 0 ≤ ((ji45) : Int) := of_decide_eq_true (by first | (with_reducible assumption) | assumption); have q48 : (ji45) < (a0.size : Int) := of_decide_eq_true (by first | (with_reducible assumption) | assumption); have hx48 := bt_at a0 (ji45); replace p48 := eq_true p48; replace q48 := eq_true q48; have p52 : 0 ≤ ((ji50) : Int) := of_decide_eq_true (by first | (with_reducible assumption) | assumption); have q52 : (ji50) < (a0.size : Int) := of_decide_eq_true (by first | (with_reducible assumption) | assumption); have hx52 := bt_at a0 (ji50); replace p52 := eq_true p52; replace q52 := eq_true q52) | (go_at_call 28; (with_reducible refine (majordomoref11_small.calls (bt a0 (ji50)) t109 _ A53.out).mono ?_); rintro e w' ⟨rfl, ⟨nd, rfl⟩⟩))
                                                    go_meet
                                                    case rel => exact ⟨_, (t109), (by first | rfl | (simp; done) | (simp [*]; done)), H', ⟨by have := HJ3.out; have := HJ10.out; have := HJ25.out; have := HJ30.out; have := HK5.out; first | omega | exact Nat.le_refl _⟩, ⟨by repeat (first | (with_reducible first | exact HB.out | apply below_alloc | apply pw_below_drewN | apply below_drew1) | exact HB.out)⟩⟩
                                                  · rw [if_neg c51] at H
                                                    exact absurd H (by simp)
                                                · rw [if_neg c49] at H
                                                  have c49b0 : ((bt a0 (ji45)) == 58) = false := beq_eq_false_iff_ne.mpr c49
                                                  have c49b1 : ((bt a0 (ji45)) != 58) = true := bne_iff_ne.mpr c49
                                                  have H' := Aside0.mk H
                                                  clear H
                                                  go_wp2_with (first | ((with_reducible refine gate_callee (f := 28) rfl ?_); refine goesL_ (some 82) rfl rfl Try.func28 (by kernel_rfl) rfl #[.int .u8 (bt a0 0)] rfl (by (try simp only [List.map_toArray, List.map_cons, List.map_nil]); first | done | rfl | (simp only [List.length_drop, List.length_take]; rfl)) ?_; (with_reducible refine (majordomoref11_small.calls (bt a0 0) true _ A38.out).mono ?_); rintro e w' ⟨rfl, ⟨nd, rfl⟩⟩; refine ⟨_, rfl, ?_⟩; have p43 : 0 ≤ (x5_5 : Int) := of_decide_eq_true (by first | (with_reducible assumption) | assumption); have q43 : x5_5 < (a0.size : Int) := of_decide_eq_true (by first | (with_reducible assumption) | assumption); have hx43 := bt_at a0 x5_5; replace p43 := eq_true p43; replace q43 := eq_true q43; have p48 : 0 ≤ ((ji45) : Int) := of_decide_eq_true (by first | (with_reducible assumption) | assumption); have q48 : (ji45) < (a0.size : Int) := of_decide_eq_true (by first | (with_reducible assumption) | assumption); have hx48 := bt_at a0 (ji45); replace p48 := eq_true p48; replace q48 := eq_true q48))
                                                  go_meet
                                                  case rel => exact ⟨_, (false), (by first | rfl | (simp; done) | (simp [*]; done)), H', ⟨by have := HJ3.out; have := HJ10.out; have := HJ25.out; have := HJ30.out; have := HK5.out; first | omega | exact Nat.le_refl _⟩, ⟨by repeat (first | (with_reducible first | exact HB.out | apply below_alloc | apply pw_below_drewN | apply below_drew1) | exact HB.out)⟩⟩
                                              · rw [if_neg c47] at H
                                                exact absurd H (by simp)
                                            · rw [if_neg c46] at H
                                              exact absurd H (by simp)
                                          · rw [if_neg c44] at H
                                            have c44b0 : ((bt a0 x5_5) == 58) = false := beq_eq_false_iff_ne.mpr c44
                                            have c44b1 : ((bt a0 x5_5) != 58) = true := bne_iff_ne.mpr c44
                                            have H' := Aside0.mk H
                                            clear H
                                            go_wp2_with (first | ((with_reducible refine gate_callee (f := 28) rfl ?_); refine goesL_ (some 82) rfl rfl Try.func28 (by kernel_rfl) rfl #[.int .u8 (bt a0 0)] rfl (by (try simp only [List.map_toArray, List.map_cons, List.map_nil]); first | done | rfl | (simp only [List.length_drop, List.length_take]; rfl)) ?_; (with_reducible refine (majordomoref11_small.calls (bt a0 0) true _ A38.out).mono ?_); rintro e w' ⟨rfl, ⟨nd, rfl⟩⟩; refine ⟨_, rfl, ?_⟩; have p43 : 0 ≤ (x5_5 : Int) := of_decide_eq_true (by first | (with_reducible assumption) | assumption); have q43 : x5_5 < (a0.size : Int) := of_decide_eq_true (by first | (with_reducible assumption) | assumption); have hx43 := bt_at a0 x5_5; replace p43 := eq_true p43; replace q43 := eq_true q43))
                                            go_meet
                                            case rel => exact ⟨_, (false), (by first | rfl | (simp; done) | (simp [*]; done)), H', ⟨by have := HJ3.out; have := HJ10.out; have := HJ25.out; have := HJ30.out; have := HK5.out; first | omega | exact Nat.le_refl _⟩, ⟨by repeat (first | (with_reducible first | exact HB.out | apply below_alloc | apply pw_below_drewN | apply below_drew1) | exact HB.out)⟩⟩
                                        · rw [if_neg c42] at H
                                          exact absurd H (by simp)
                                      · rw [if_neg c41] at H
                                        exact absurd H (by simp)
                                    · rw [if_neg c40] at H
                                      have c40b0 : decide ((wrap64 (x5_5 + 2)) < (a0.size : Int)) = false := decide_eq_false c40
                                      clear c40
                                      (first | rw [c40b0] | (simp only [i64_w, i32_w]; rw [c40b0]) | skip)
                                      have H' := Aside0.mk H
                                      clear H
                                      go_wp2_with (first | ((with_reducible refine gate_callee (f := 28) rfl ?_); refine goesL_ (some 82) rfl rfl Try.func28 (by kernel_rfl) rfl #[.int .u8 (bt a0 0)] rfl (by (try simp only [List.map_toArray, List.map_cons, List.map_nil]); first | done | rfl | (simp only [List.length_drop, List.length_take]; rfl)) ?_; (with_reducible refine (majordomoref11_small.calls (bt a0 0) true _ A38.out).mono ?_); rintro e w' ⟨rfl, ⟨nd, rfl⟩⟩; refine ⟨_, rfl, ?_⟩))
                                      go_meet
                                      case rel => exact ⟨_, (false), (by first | rfl | (simp; done) | (simp [*]; done)), H', ⟨by have := HJ3.out; have := HJ10.out; have := HJ25.out; have := HJ30.out; have := HK5.out; first | omega | exact Nat.le_refl _⟩, ⟨by repeat (first | (with_reducible first | exact HB.out | apply below_alloc | apply pw_below_drewN | apply below_drew1) | exact HB.out)⟩⟩
                                  · replace c39 := Bool.eq_false_iff.mpr c39
                                    subst c39
                                    have H1 : (majordomoref11_reach.j8 k5 a0 (bt a0 0) x5_5 false) = some r := by rw [if_neg (show ¬ (false = true) by decide)] at H; exact H
                                    clear H
                                    have H := H1
                                    clear H1
                                    have H' := Aside0.mk H
                                    clear H
                                    go_wp2_with (first | ((with_reducible refine gate_callee (f := 28) rfl ?_); refine goesL_ (some 82) rfl rfl Try.func28 (by kernel_rfl) rfl #[.int .u8 (bt a0 0)] rfl (by (try simp only [List.map_toArray, List.map_cons, List.map_nil]); first | done | rfl | (simp only [List.length_drop, List.length_take]; rfl)) ?_; (with_reducible refine (majordomoref11_small.calls (bt a0 0) false _ A38.out).mono ?_); rintro e w' ⟨rfl, ⟨nd, rfl⟩⟩; refine ⟨_, rfl, ?_⟩))
                                    go_meet
                                    case rel => exact ⟨_, (false), (by first | rfl | (simp; done) | (simp [*]; done)), H', ⟨by have := HJ3.out; have := HJ10.out; have := HJ25.out; have := HJ30.out; have := HK5.out; first | omega | exact Nat.le_refl _⟩, ⟨by repeat (first | (with_reducible first | exact HB.out | apply below_alloc | apply pw_below_drewN | apply below_drew1) | exact HB.out)⟩⟩
                                case rest =>
                                  clear HC37
                                  try clear c1
                                  try clear p1
                                  try clear q1
                                  try clear hx1
                                  try clear qi1
                                  try clear c2
                                  try clear c2b0
                                  try clear c2b1
                                  try clear p2
                                  try clear q2
                                  try clear hx2
                                  try clear c3
                                  try clear p3
                                  try clear q3
                                  try clear hx3
                                  try clear qi3
                                  try clear c4
                                  try clear p4
                                  try clear q4
                                  try clear hx4
                                  try clear c5
                                  try clear c5b0
                                  try clear c5b1
                                  try clear p5
                                  try clear q5
                                  try clear hx5
                                  try clear c6
                                  try clear p6
                                  try clear c7
                                  try clear c7b0
                                  try clear c8
                                  try clear c8b0
                                  try clear p9
                                  try clear q9
                                  try clear hx9
                                  try clear c10
                                  try clear c10b0
                                  try clear c10b1
                                  try clear c12
                                  try clear c12b0
                                  try clear c12b1
                                  try clear c13
                                  try clear c13b0
                                  try clear c13b1
                                  try clear c14
                                  try clear c14b0
                                  try clear c14b1
                                  try clear c15
                                  try clear p15
                                  try clear q15
                                  try clear hx15
                                  try clear qi15
                                  try clear c17
                                  try clear c19
                                  try clear c20
                                  try clear c20b0
                                  try clear c21
                                  try clear c21b0
                                  try clear p22
                                  try clear q22
                                  try clear hx22
                                  try clear c24
                                  try clear c27
                                  try clear c28
                                  try clear c28b0
                                  try clear c29
                                  try clear c29b0
                                  try clear c30
                                  try clear c32
                                  try clear c32b0
                                  try clear c33
                                  try clear c33b0
                                  try clear p34
                                  try clear q34
                                  try clear hx34
                                  try clear c36
                                  try clear c39
                                  try clear c40
                                  try clear c40b0
                                  try clear c41
                                  try clear c41b0
                                  try clear c42
                                  try clear c42b0
                                  try clear p43
                                  try clear q43
                                  try clear hx43
                                  try clear c44
                                  try clear c44b0
                                  try clear c44b1
                                  try clear c46
                                  try clear c46b0
                                  try clear c47
                                  try clear c47b0
                                  try clear p48
                                  try clear q48
                                  try clear hx48
                                  try clear c49
                                  try clear c49b0
                                  try clear c49b1
                                  try clear c51
                                  try clear c51b0
                                  try clear p52
                                  try clear q52
                                  try clear hx52
                                  try clear p1
                                  try clear p15
                                  try clear p2
                                  try clear p22
                                  try clear p3
                                  try clear p34
                                  try clear p43
                                  try clear p48
                                  try clear p52
                                  try clear p6
                                  try clear p9
                                  try clear q1
                                  try clear q15
                                  try clear q2
                                  try clear q22
                                  try clear q3
                                  try clear q34
                                  try clear q43
                                  try clear q48
                                  try clear q52
                                  try clear q9
                                  obtain ⟨kq, x109_36, rfl, HA, HJ36, HB⟩ := hcut
                                  cases kq with
                                  | zero => exact absurd HA.out (by simp [majordomoref11_reach.j8])
                                  | succ kj36 =>
                                    have H := HA.out
                                    clear HA
                                    simp only [majordomoref11_reach.j8] at H
                                    by_cases c54 : x109_36 = true
                                    · subst c54
                                      have H1 : (majordomoref11_reach.l4 kj36 a0 (bt a0 0) (wrap64 (x5_5 + 3))) = some r := by rw [if_pos rfl] at H; exact H
                                      clear H
                                      have H := H1
                                      clear H1
                                      have H' := Aside0.mk H
                                      clear H
                                      go_wp2
                                      go_loopg [5] kj36 (fun kq v5 w' => ∃ (x5_7 : Int), v5 = .int .i64 x5_7 ∧ Aside0 (majordomoref11_reach.l4 kq a0 (bt a0 0) x5_7 = some r) ∧ Aside0 (kq ≤ kj36) ∧ Aside0 (Below w.heap.size w w'))
                                      case atStart => exact ⟨(wrap64 (x5_5 + 3)), (by first | rfl | (simp; done) | (simp [*]; done)), H', ⟨Nat.le_refl _⟩, ⟨by repeat (first | (with_reducible first | exact HB.out | apply below_alloc | apply pw_below_drewN | apply below_drew1) | exact HB.out)⟩⟩
                                      case round =>
                                        clear H'
                                        try clear c1
                                        try clear p1
                                        try clear q1
                                        try clear hx1
                                        try clear qi1
                                        try clear c2
                                        try clear c2b0
                                        try clear c2b1
                                        try clear p2
                                        try clear q2
                                        try clear hx2
                                        try clear c3
                                        try clear p3
                                        try clear q3
                                        try clear hx3
                                        try clear qi3
                                        try clear c4
                                        try clear p4
                                        try clear q4
                                        try clear hx4
                                        try clear c5
                                        try clear c5b0
                                        try clear c5b1
                                        try clear p5
                                        try clear q5
                                        try clear hx5
                                        try clear c6
                                        try clear p6
                                        try clear c7
                                        try clear c7b0
                                        try clear c8
                                        try clear c8b0
                                        try clear p9
                                        try clear q9
                                        try clear hx9
                                        try clear c10
                                        try clear c10b0
                                        try clear c10b1
                                        try clear c12
                                        try clear c12b0
                                        try clear c12b1
                                        try clear c13
                                        try clear c13b0
                                        try clear c13b1
                                        try clear c14
                                        try clear c14b0
                                        try clear c14b1
                                        try clear c15
                                        try clear p15
                                        try clear q15
                                        try clear hx15
                                        try clear qi15
                                        try clear c17
                                        try clear c19
                                        try clear c20
                                        try clear c20b0
                                        try clear c21
                                        try clear c21b0
                                        try clear p22
                                        try clear q22
                                        try clear hx22
                                        try clear c24
                                        try clear c27
                                        try clear c28
                                        try clear c28b0
                                        try clear c29
                                        try clear c29b0
                                        try clear c30
                                        try clear c32
                                        try clear c32b0
                                        try clear c33
                                        try clear c33b0
                                        try clear p34
                                        try clear q34
                                        try clear hx34
                                        try clear c36
                                        try clear c39
                                        try clear c40
                                        try clear c40b0
                                        try clear c41
                                        try clear c41b0
                                        try clear c42
                                        try clear c42b0
                                        try clear p43
                                        try clear q43
                                        try clear hx43
                                        try clear c44
                                        try clear c44b0
                                        try clear c44b1
                                        try clear c46
                                        try clear c46b0
                                        try clear c47
                                        try clear c47b0
                                        try clear p48
                                        try clear q48
                                        try clear hx48
                                        try clear c49
                                        try clear c49b0
                                        try clear c49b1
                                        try clear c51
                                        try clear c51b0
                                        try clear p52
                                        try clear q52
                                        try clear hx52
                                        try clear c54
                                        try clear p1
                                        try clear p15
                                        try clear p2
                                        try clear p22
                                        try clear p3
                                        try clear p34
                                        try clear p4
                                        try clear p43
                                        try clear p48
                                        try clear p5
                                        try clear p52
                                        try clear p6
                                        try clear p9
                                        try clear q1
                                        try clear q15
                                        try clear q2
                                        try clear q22
                                        try clear q3
                                        try clear q34
                                        try clear q4
                                        try clear q43
                                        try clear q48
                                        try clear q5
                                        try clear q52
                                        try clear q9
                                        obtain ⟨x5_7, rfl, HA, HK7, HB⟩ := hrel
                                        cases gk with
                                        | zero => exact absurd HA.out (by simp [majordomoref11_reach.l4])
                                        | succ k7 =>
                                          have H := HA.out
                                          clear HA
                                          simp only [majordomoref11_reach.l4] at H
                                          by_cases c55 : x5_7 < (a0.size : Int)
                                          · rw [if_pos c55] at H
                                            have c55b0 : decide (x5_7 < (a0.size : Int)) = true := decide_eq_true c55
                                            clear c55
                                            by_cases c56 : 0 ≤ x5_7
                                            · rw [if_pos c56] at H
                                              have c56b0 : decide (0 ≤ x5_7) = true := decide_eq_true c56
                                              clear c56
                                              replace H := Option.bind_eq_some_iff.mp H
                                              obtain ⟨t110, A580, H⟩ := H
                                              replace H : (if t110 = true then (majordomoref11_reach.l4 k7 a0 (bt a0 0) (wrap64 (x5_7 + 1))) else (majordomoref11_reach.l3 k7 a0 (bt a0 0) x5_7)) = some r := H
                                              have A58 := Aside0.mk A580
                                              clear A580
                                              by_cases c59 : t110 = true
                                              · subst c59
                                                have H1 : (majordomoref11_reach.l4 k7 a0 (bt a0 0) (wrap64 (x5_7 + 1))) = some r := by rw [if_pos rfl] at H; exact H
                                                clear H
                                                have H := H1
                                                clear H1
                                                have H' := Aside0.mk H
                                                clear H
                                                have p57 : 0 ≤ (x5_7 : Int) := of_decide_eq_true (by first | (with_reducible assumption) | assumption)
                                                have q57 : x5_7 < (a0.size : Int) := of_decide_eq_true (by first | (with_reducible assumption) | assumption)
                                                have hx57 := bt_at a0 x5_7
                                                replace p57 := eq_true p57
                                                replace q57 := eq_true q57
                                                go_wp2_with (first | (go_at_call 30; (with_reducible refine (majordomoref11_tail.calls (bt a0 x5_7) true _ A58.out).mono ?_); rintro e w' ⟨rfl, ⟨nd, rfl⟩⟩))
                                                go_roundg k7
                                                case measure => have := HJ3.out; have := HJ10.out; have := HJ25.out; have := HJ30.out; have := HK5.out; have := HJ36.out; have := HK7.out; omega
                                                case rel => exact ⟨(wrap64 (x5_7 + 1)), (by first | rfl | (simp; done) | (simp [*]; done)), H', ⟨by have := HJ3.out; have := HJ10.out; have := HJ25.out; have := HJ30.out; have := HK5.out; have := HJ36.out; have := HK7.out; omega⟩, ⟨by repeat (first | (with_reducible first | exact HB.out | apply below_alloc | apply pw_below_drewN | apply below_drew1) | exact HB.out)⟩⟩
                                              · replace c59 := Bool.eq_false_iff.mpr c59
                                                subst c59
                                                have H1 : (majordomoref11_reach.l3 k7 a0 (bt a0 0) x5_7) = some r := by rw [if_neg (show ¬ (false = true) by decide)] at H; exact H
                                                clear H
                                                have H := H1
                                                clear H1
                                                have H' := Aside0.mk H
                                                clear H
                                                have p57 : 0 ≤ (x5_7 : Int) := of_decide_eq_true (by first | (with_reducible assumption) | assumption)
                                                have q57 : x5_7 < (a0.size : Int) := of_decide_eq_true (by first | (with_reducible assumption) | assumption)
                                                have hx57 := bt_at a0 x5_7
                                                replace p57 := eq_true p57
                                                replace q57 := eq_true q57
                                                go_wp2_with (first | (go_at_call 30; (with_reducible refine (majordomoref11_tail.calls (bt a0 x5_7) false _ A58.out).mono ?_); rintro e w' ⟨rfl, ⟨nd, rfl⟩⟩))
                                                go_roundg k7
                                                case measure => have := HJ3.out; have := HJ10.out; have := HJ25.out; have := HJ30.out; have := HK5.out; have := HJ36.out; have := HK7.out; omega
                                                case rel => exact ⟨(x5_7), (by first | rfl | (simp; done) | (simp [*]; done)), H', ⟨by have := HJ3.out; have := HJ10.out; have := HJ25.out; have := HJ30.out; have := HK5.out; have := HJ36.out; have := HK7.out; omega⟩, ⟨by repeat (first | (with_reducible first | exact HB.out | apply below_alloc | apply pw_below_drewN | apply below_drew1) | exact HB.out)⟩⟩
                                            · rw [if_neg c56] at H
                                              exact absurd H (by simp)
                                          · rw [if_neg c55] at H
                                            have c55b0 : decide (x5_7 < (a0.size : Int)) = false := decide_eq_false c55
                                            clear c55
                                            have H' := Aside0.mk H
                                            clear H
                                            go_wp2
                                            go_roundg k7
                                            case measure => have := HJ3.out; have := HJ10.out; have := HJ25.out; have := HJ30.out; have := HK5.out; have := HJ36.out; have := HK7.out; omega
                                            case rel => exact ⟨(x5_7), (by first | rfl | (simp; done) | (simp [*]; done)), H', ⟨by have := HJ3.out; have := HJ10.out; have := HJ25.out; have := HJ30.out; have := HK5.out; have := HJ36.out; have := HK7.out; omega⟩, ⟨by repeat (first | (with_reducible first | exact HB.out | apply below_alloc | apply pw_below_drewN | apply below_drew1) | exact HB.out)⟩⟩
                                    · replace c54 := Bool.eq_false_iff.mpr c54
                                      subst c54
                                      have H1 : (some x5_5) = some r := by rw [if_neg (show ¬ (false = true) by decide)] at H; exact H
                                      clear H
                                      have H := H1
                                      clear H1
                                      obtain rfl := Option.some.inj H
                                      go_wp2
                                      go_ret
                                      exact ⟨by first | rfl | (simp [errW_none, errW_some] <;> rfl) | (simp [*, errW_none, errW_some] <;> rfl), by repeat (first | (with_reducible first | exact HB.out | apply below_alloc | apply pw_below_drewN | apply below_drew1) | exact HB.out)⟩
                      · replace c30 := Bool.eq_false_iff.mpr c30
                        subst c30
                        have H1 : (some (mn 2 (a0.size : Int))) = some r := by rw [if_neg (show ¬ (false = true) by decide)] at H; exact H
                        clear H
                        have H := H1
                        clear H1
                        obtain ⟨ji60, hji60⟩ : ∃ j_ : Int, (mn 2 (a0.size : Int)) = j_ := ⟨_, rfl⟩
                        replace H : (some ji60) = some r := by first | (rw [hji60] at H; exact H) | (simp only [hji60] at H ⊢; exact H)
                        have hji60_ : (if (a0.size : Int) < 2 then (a0.size : Int) else 2) = ji60 := hji60
                        obtain rfl := Option.some.inj H
                        go_wp2
                        go_ret
                        exact ⟨by first | rfl | (simp [errW_none, errW_some] <;> rfl) | (simp only [← hji60]; first | rfl | (simp [errW_none, errW_some] <;> rfl)) | (simp [*, errW_none, errW_some] <;> rfl), by repeat (first | (with_reducible first | exact HB.out | apply below_alloc | apply pw_below_drewN | apply below_drew1) | exact HB.out)⟩
  · rw [if_neg c2] at H
    exact absurd H (by simp)

end Go.Proofs.Ytoggcdldoinbnaa.PL
