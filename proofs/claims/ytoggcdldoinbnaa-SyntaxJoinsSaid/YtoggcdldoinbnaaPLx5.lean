-- printed by wip/printx (a program of this session's, over the kit's print)
import Derived.Test.YtoggcdldoinbnaaPLx0
import Derived.Test.YtoggcdldoinbnaaPLx2
import Derived.Test.YtoggcdldoinbnaaPLx4
namespace Go.Proofs.Ytoggcdldoinbnaa.PL
open Go.RowKit Go.Proofs.YtoggcdldoinbnaaW.PrintWords Go.Proofs.YtoggcdldoinbnaaW.PrintLast Go.Proofs.YtoggcdldoinbnaaW.PrintMore
attribute [local go_sem] max2_int min2_int max_two min_two max_three min_three max_four min_four Go.Proofs.Ytoggcdldoinbnaa.PxMore.isSome_setCell   -- for this text's walks alone
set_option linter.unusedVariables false
set_option linter.unusedSimpArgs false

/-! ### majordomoref11_Lex: function 11 -/
mutual
def majordomoref11_Lex.l0 : Nat → ByteArray → List (S37) → Int → Option ((List (S37)) × Int × Int)
  | 0, _, _, _ => none
  | k + 1, x0, x5, x6 => if x6 < (x0.size : Int) then (if 0 ≤ x6 then (if (bt x0 x6) = 9 then (majordomoref11_Lex.j1 k x0 x5 x6 (bt x0 x6) true) else (if (bt x0 x6) = 10 then (majordomoref11_Lex.j1 k x0 x5 x6 (bt x0 x6) true) else (if (bt x0 x6) = 13 then (majordomoref11_Lex.j1 k x0 x5 x6 (bt x0 x6) true) else (majordomoref11_Lex.j1 k x0 x5 x6 (bt x0 x6) ((bt x0 x6) == 32))))) else (none)) else (some (x5, 0, 0))
def majordomoref11_Lex.j1 : Nat → ByteArray → List (S37) → Int → Int → Bool → Option ((List (S37)) × Int × Int)
  | 0, _, _, _, _, _ => none
  | k + 1, x0, x5, x6, x7, x33 => if x33 = true then (majordomoref11_Lex.l0 k x0 x5 (wrap64 (x6 + 1))) else (if x7 = 35 then (majordomoref11_Lex.l1 k x0 x5 x6) else (if 0 ≤ x6 then (if x6 ≤ (x0.size : Int) then ((majordomoref11_reach.f k (x0.extract (x6 : Int).toNat x0.size)).bind fun t121 => (if x6 ≤ (wrap64 (x6 + t121)) then (if (wrap64 (x6 + t121)) ≤ (x0.size : Int) then ((majordomoref11_word.f k (x0.extract (x6 : Int).toNat ((wrap64 (x6 + t121)) : Int).toNat)).bind fun bt122 => (majordomoref11_Lex.l2 k x0 x5 x6 t121 bt122.1 bt122.2.1 bt122.2.2)) else (none)) else (none))) else (none)) else (none)))
def majordomoref11_Lex.l1 : Nat → ByteArray → List (S37) → Int → Option ((List (S37)) × Int × Int)
  | 0, _, _, _ => none
  | k + 1, x0, x5, x6 => if x6 < (x0.size : Int) then (if 0 ≤ x6 then (if (bt x0 x6) = 10 then (majordomoref11_Lex.l0 k x0 x5 x6) else (majordomoref11_Lex.l1 k x0 x5 (wrap64 (x6 + 1)))) else (none)) else (majordomoref11_Lex.l0 k x0 x5 x6)
def majordomoref11_Lex.l2 : Nat → ByteArray → List (S37) → Int → Int → Int → ByteArray → Int → Option ((List (S37)) × Int × Int)
  | 0, _, _, _, _, _, _, _ => none
  | k + 1, x0, x5, x6, x8, x126000, x126001, x126002 => if x8 > 0 then (if x126000 = 0 then (if 0 ≤ x6 then (if x6 ≤ (wrap64 (x6 + (wrap64 (x8 - 1)))) then (if (wrap64 (x6 + (wrap64 (x8 - 1)))) ≤ (x0.size : Int) then ((majordomoref11_word.f k (x0.extract (x6 : Int).toNat ((wrap64 (x6 + (wrap64 (x8 - 1)))) : Int).toNat)).bind fun bt126 => (majordomoref11_Lex.l2 k x0 x5 x6 (wrap64 (x8 - 1)) bt126.1 bt126.2.1 bt126.2.2)) else (none)) else (none)) else (none)) else (if x8 = 0 then (some (([] : List (S37)), x6, 110)) else (if x126000 = 6 then (if x8 > 9 then (some (([] : List (S37)), x6, 110)) else (if x5.length < 4398046511104 then (majordomoref11_Lex.l0 k x0 (x5 ++ [(⟨x126000, x126001, x6⟩ : S37)]) (wrap64 (x6 + x8))) else (none))) else (if x5.length < 4398046511104 then (majordomoref11_Lex.l0 k x0 (x5 ++ [(⟨x126000, x126001, x6⟩ : S37)]) (wrap64 (x6 + x8))) else (none))))) else (if x8 = 0 then (some (([] : List (S37)), x6, 110)) else (if x126000 = 6 then (if x8 > 9 then (some (([] : List (S37)), x6, 110)) else (if x5.length < 4398046511104 then (majordomoref11_Lex.l0 k x0 (x5 ++ [(⟨x126000, x126001, x6⟩ : S37)]) (wrap64 (x6 + x8))) else (none))) else (if x5.length < 4398046511104 then (majordomoref11_Lex.l0 k x0 (x5 ++ [(⟨x126000, x126001, x6⟩ : S37)]) (wrap64 (x6 + x8))) else (none))))
end
def majordomoref11_Lex.f (k : Nat) (a0 : ByteArray) : Option ((List (S37)) × Int × Int) := if (a0.size : Int) > 65536 then (some (([] : List (S37)), 0, 5)) else (majordomoref11_Lex.l0 k a0 ([] : List (S37)) 0)
theorem majordomoref11_Lex.mono_l : ∀ k, (∀ y0 y1 y2, LeO (majordomoref11_Lex.l0 k y0 y1 y2) (majordomoref11_Lex.l0 (k + 1) y0 y1 y2)) ∧ (∀ y0 y1 y2 y3 y4, LeO (majordomoref11_Lex.j1 k y0 y1 y2 y3 y4) (majordomoref11_Lex.j1 (k + 1) y0 y1 y2 y3 y4)) ∧ (∀ y0 y1 y2, LeO (majordomoref11_Lex.l1 k y0 y1 y2) (majordomoref11_Lex.l1 (k + 1) y0 y1 y2)) ∧ (∀ y0 y1 y2 y3 y4 y5 y6, LeO (majordomoref11_Lex.l2 k y0 y1 y2 y3 y4 y5 y6) (majordomoref11_Lex.l2 (k + 1) y0 y1 y2 y3 y4 y5 y6))
  | 0 => ⟨fun _ _ _ r h => by simp [majordomoref11_Lex.l0] at h, fun _ _ _ _ _ r h => by simp [majordomoref11_Lex.j1] at h, fun _ _ _ r h => by simp [majordomoref11_Lex.l1] at h, fun _ _ _ _ _ _ _ r h => by simp [majordomoref11_Lex.l2] at h⟩
  | k + 1 => by
    obtain ⟨ih0, ih1, ih2, ih3⟩ := majordomoref11_Lex.mono_l k
    refine ⟨?_, ?_, ?_, ?_⟩
    · intro y0 y1 y2
      unfold majordomoref11_Lex.l0
      repeat' first
      | (with_reducible exact ih0 _ _ _)
      | (with_reducible exact ih1 _ _ _ _ _)
      | (with_reducible exact ih2 _ _ _)
      | (with_reducible exact ih3 _ _ _ _ _ _ _)
      | (with_reducible exact majordomoref11_reach.mono _ _)
      | (with_reducible exact majordomoref11_word.mono _ _)
      | (with_reducible exact LeO.refl _)
      | (with_reducible exact LeO.none _)
      | (with_reducible refine LeO.ite ?_ ?_)
      | (with_reducible refine LeO.bind ?_ (fun _ => ?_))
      | exact ih0 _ _ _
      | exact ih1 _ _ _ _ _
      | exact ih2 _ _ _
      | exact ih3 _ _ _ _ _ _ _
      | exact majordomoref11_reach.mono _ _
      | exact majordomoref11_word.mono _ _
      | exact LeO.none _
      | refine LeO.ite ?_ ?_
      | refine LeO.bind ?_ (fun _ => ?_)
    · intro y0 y1 y2 y3 y4
      unfold majordomoref11_Lex.j1
      repeat' first
      | (with_reducible exact ih0 _ _ _)
      | (with_reducible exact ih1 _ _ _ _ _)
      | (with_reducible exact ih2 _ _ _)
      | (with_reducible exact ih3 _ _ _ _ _ _ _)
      | (with_reducible exact majordomoref11_reach.mono _ _)
      | (with_reducible exact majordomoref11_word.mono _ _)
      | (with_reducible exact LeO.refl _)
      | (with_reducible exact LeO.none _)
      | (with_reducible refine LeO.ite ?_ ?_)
      | (with_reducible refine LeO.bind ?_ (fun _ => ?_))
      | exact ih0 _ _ _
      | exact ih1 _ _ _ _ _
      | exact ih2 _ _ _
      | exact ih3 _ _ _ _ _ _ _
      | exact majordomoref11_reach.mono _ _
      | exact majordomoref11_word.mono _ _
      | exact LeO.none _
      | refine LeO.ite ?_ ?_
      | refine LeO.bind ?_ (fun _ => ?_)
    · intro y0 y1 y2
      unfold majordomoref11_Lex.l1
      repeat' first
      | (with_reducible exact ih0 _ _ _)
      | (with_reducible exact ih1 _ _ _ _ _)
      | (with_reducible exact ih2 _ _ _)
      | (with_reducible exact ih3 _ _ _ _ _ _ _)
      | (with_reducible exact majordomoref11_reach.mono _ _)
      | (with_reducible exact majordomoref11_word.mono _ _)
      | (with_reducible exact LeO.refl _)
      | (with_reducible exact LeO.none _)
      | (with_reducible refine LeO.ite ?_ ?_)
      | (with_reducible refine LeO.bind ?_ (fun _ => ?_))
      | exact ih0 _ _ _
      | exact ih1 _ _ _ _ _
      | exact ih2 _ _ _
      | exact ih3 _ _ _ _ _ _ _
      | exact majordomoref11_reach.mono _ _
      | exact majordomoref11_word.mono _ _
      | exact LeO.none _
      | refine LeO.ite ?_ ?_
      | refine LeO.bind ?_ (fun _ => ?_)
    · intro y0 y1 y2 y3 y4 y5 y6
      unfold majordomoref11_Lex.l2
      repeat' first
      | (with_reducible exact ih0 _ _ _)
      | (with_reducible exact ih1 _ _ _ _ _)
      | (with_reducible exact ih2 _ _ _)
      | (with_reducible exact ih3 _ _ _ _ _ _ _)
      | (with_reducible exact majordomoref11_reach.mono _ _)
      | (with_reducible exact majordomoref11_word.mono _ _)
      | (with_reducible exact LeO.refl _)
      | (with_reducible exact LeO.none _)
      | (with_reducible refine LeO.ite ?_ ?_)
      | (with_reducible refine LeO.bind ?_ (fun _ => ?_))
      | exact ih0 _ _ _
      | exact ih1 _ _ _ _ _
      | exact ih2 _ _ _
      | exact ih3 _ _ _ _ _ _ _
      | exact majordomoref11_reach.mono _ _
      | exact majordomoref11_word.mono _ _
      | exact LeO.none _
      | refine LeO.ite ?_ ?_
      | refine LeO.bind ?_ (fun _ => ?_)
theorem majordomoref11_Lex.mono : ∀ a0 k, LeO (majordomoref11_Lex.f k a0) (majordomoref11_Lex.f (k + 1) a0) := by
  intro a0 k
  obtain ⟨ih0, ih1, ih2, ih3⟩ := majordomoref11_Lex.mono_l k
  unfold majordomoref11_Lex.f
  repeat' first
      | (with_reducible exact ih0 _ _ _)
      | (with_reducible exact ih1 _ _ _ _ _)
      | (with_reducible exact ih2 _ _ _)
      | (with_reducible exact ih3 _ _ _ _ _ _ _)
      | (with_reducible exact majordomoref11_reach.mono _ _)
      | (with_reducible exact majordomoref11_word.mono _ _)
      | (with_reducible exact LeO.refl _)
      | (with_reducible exact LeO.none _)
      | (with_reducible refine LeO.ite ?_ ?_)
      | (with_reducible refine LeO.bind ?_ (fun _ => ?_))
      | exact ih0 _ _ _
      | exact ih1 _ _ _ _ _
      | exact ih2 _ _ _
      | exact ih3 _ _ _ _ _ _ _
      | exact majordomoref11_reach.mono _ _
      | exact majordomoref11_word.mono _ _
      | exact LeO.none _
      | refine LeO.ite ?_ ?_
      | refine LeO.bind ?_ (fun _ => ?_)
set_option maxHeartbeats 8000000 in
set_option maxRecDepth 100000 in
theorem majordomoref11_Lex.calls (k : Nat) (a0 : ByteArray) (r1 : List (S37)) (r2 : Int) (r3 : Int) (w : World) (h : majordomoref11_Lex.f k a0 = some (r1, r2, r3)) :
    Calls Try.prog 11 #[.string a0] w fun e w' => ∃ v0_ : Value, e = .returned (.tuple #[v0_, .int .i64 r2, .int .i64 r3]) ∧ Kd.R k37 37 w' w.heap.size (fun _ => True) v0_ r1 ∧ Below w.heap.size w w' := by
  have hu37 := Try.underlying37
  have HB := Aside0.mk (Below.refl w.heap.size w)
  have H : (if (a0.size : Int) > 65536 then (some (([] : List (S37)), 0, 5)) else (majordomoref11_Lex.l0 k a0 ([] : List (S37)) 0)) = some (r1, r2, r3) := h
  clear h
  by_cases c2 : (a0.size : Int) > 65536
  · rw [if_pos c2] at H
    have c2b0 : decide (65536 < (a0.size : Int)) = true := decide_eq_true c2
    have c2b1 : decide (65536 < a0.size) = true := decide_eq_true (by omega)
    clear c2
    simp only [Option.some.injEq, Prod.mk.injEq] at H
    obtain ⟨rfl, rfl, rfl⟩ := H
    go_enter Try.func11, Try.ntmps11
    go_wp2
    go_ret3
    exact ⟨_, by first | rfl | (simp [errW_none, errW_some] <;> rfl) | (simp [*, errW_none, errW_some] <;> rfl), by first | exact Kd.R_nil _ _ _ _ _ | exact Kd.N_nil _ _ _ _ _ | exact Kd.V_nil _ _ _ _ _ | exact Kd.Q_nil _ _ _ _ _ | exact Kd.S_nil _ _ _ _ _, by repeat (first | (with_reducible first | exact HB.out | apply below_alloc | apply pw_below_drewN | apply below_drew1) | exact HB.out)⟩
  · rw [if_neg c2] at H
    have c2b0 : decide (65536 < (a0.size : Int)) = false := decide_eq_false c2
    have c2b1 : decide (65536 < a0.size) = false := decide_eq_false (by omega)
    clear c2
    have H' := Aside0.mk H
    clear H
    go_enter Try.func11, Try.ntmps11
    go_wp2
    go_loopg [5, 6] k (fun kq v5 v6 w' => ∃ (x5_1 : List (S37)) (x6_1 : Int), v6 = .int .i64 x6_1 ∧ Aside0 (majordomoref11_Lex.l0 kq a0 x5_1 x6_1 = some (r1, r2, r3)) ∧ Aside0 (kq ≤ k) ∧ Aside0 (Kd.R k37 37 w' w.heap.size (fun _ => True) v5 x5_1) ∧ Aside0 (Below w.heap.size w w'))
    case atStart => exact ⟨(([] : List (S37))), (0), (by first | rfl | (simp; done) | (simp [*]; done)), H', ⟨Nat.le_refl _⟩, ⟨by first | exact Kd.R_nil _ _ _ _ _ | exact Kd.N_nil _ _ _ _ _ | exact Kd.V_nil _ _ _ _ _ | exact Kd.Q_nil _ _ _ _ _ | exact Kd.S_nil _ _ _ _ _⟩, ⟨by repeat (first | (with_reducible first | exact HB.out | apply below_alloc | apply pw_below_drewN | apply below_drew1) | exact HB.out)⟩⟩
    case round =>
      clear H'
      try clear c1
      try clear c2
      try clear c2b0
      try clear c2b1
      try clear p2
      obtain ⟨x5_1, x6_1, rfl, HA, HK1, HO_5, HB⟩ := hrel
      cases gk with
      | zero => exact absurd HA.out (by simp [majordomoref11_Lex.l0])
      | succ k1 =>
        have H := HA.out
        clear HA
        simp only [majordomoref11_Lex.l0] at H
        by_cases c3 : x6_1 < (a0.size : Int)
        · rw [if_pos c3] at H
          have c3b0 : decide (x6_1 < (a0.size : Int)) = true := decide_eq_true c3
          clear c3
          by_cases c4 : 0 ≤ x6_1
          · rw [if_pos c4] at H
            have c4b0 : decide (0 ≤ x6_1) = true := decide_eq_true c4
            clear c4
            have HC6 := Aside0.mk H
            clear H
            have p5 : 0 ≤ (x6_1 : Int) := of_decide_eq_true (by first | (with_reducible assumption) | assumption)
            have q5 : x6_1 < (a0.size : Int) := of_decide_eq_true (by first | (with_reducible assumption) | assumption)
            have hx5 := bt_at a0 x6_1
            replace p5 := eq_true p5
            replace q5 := eq_true q5
            go_upto_region 7 with (fail)
            go_cut [33] (fun v33 wc => ∃ (kq : Nat) (x33_5 : Bool), v33 = .bool x33_5 ∧ Aside0 (majordomoref11_Lex.j1 kq a0 x5_1 x6_1 (bt a0 x6_1) x33_5 = some (r1, r2, r3)) ∧ Aside0 (kq ≤ k1) ∧ Aside0 (Kd.R k37 37 wc w.heap.size (fun _ => True) u5 x5_1) ∧ Aside0 (Below w.heap.size w wc))
            case first =>
              have H := HC6.out
              clear HC6
              by_cases c7 : (bt a0 x6_1) = 9
              · rw [if_pos c7] at H
                have c7b0 : ((bt a0 x6_1) == 9) = true := beq_iff_eq.mpr c7
                have c7b1 : ((bt a0 x6_1) != 9) = false := bne_eq_false_iff_eq.mpr c7
                clear c7
                (first | rw [c7b0] | (simp only [i64_w, i32_w]; rw [c7b0]) | skip)
                have H' := Aside0.mk H
                clear H
                go_wp2
                go_meet
                case rel => exact ⟨_, (true), (by first | rfl | (simp; done) | (simp [*]; done)), H', ⟨by have := HK1.out; first | omega | exact Nat.le_refl _⟩, ⟨by (with_reducible repeat (first | apply Kd.R_alloc | apply Kd.R_drewN | apply Kd.R_drew)); exact HO_5.out⟩, ⟨by repeat (first | (with_reducible first | exact HB.out | apply below_alloc | apply pw_below_drewN | apply below_drew1) | exact HB.out)⟩⟩
              · rw [if_neg c7] at H
                have c7b0 : ((bt a0 x6_1) == 9) = false := beq_eq_false_iff_ne.mpr c7
                have c7b1 : ((bt a0 x6_1) != 9) = true := bne_iff_ne.mpr c7
                (first | rw [c7b0] | (simp only [i64_w, i32_w]; rw [c7b0]) | skip)
                by_cases c8 : (bt a0 x6_1) = 10
                · rw [if_pos c8] at H
                  have c8b0 : ((bt a0 x6_1) == 10) = true := beq_iff_eq.mpr c8
                  have c8b1 : ((bt a0 x6_1) != 10) = false := bne_eq_false_iff_eq.mpr c8
                  clear c8
                  have H' := Aside0.mk H
                  clear H
                  go_wp2
                  go_meet
                  case rel => exact ⟨_, (true), (by first | rfl | (simp; done) | (simp [*]; done)), H', ⟨by have := HK1.out; first | omega | exact Nat.le_refl _⟩, ⟨by (with_reducible repeat (first | apply Kd.R_alloc | apply Kd.R_drewN | apply Kd.R_drew)); exact HO_5.out⟩, ⟨by repeat (first | (with_reducible first | exact HB.out | apply below_alloc | apply pw_below_drewN | apply below_drew1) | exact HB.out)⟩⟩
                · rw [if_neg c8] at H
                  have c8b0 : ((bt a0 x6_1) == 10) = false := beq_eq_false_iff_ne.mpr c8
                  have c8b1 : ((bt a0 x6_1) != 10) = true := bne_iff_ne.mpr c8
                  by_cases c9 : (bt a0 x6_1) = 13
                  · rw [if_pos c9] at H
                    have c9b0 : ((bt a0 x6_1) == 13) = true := beq_iff_eq.mpr c9
                    have c9b1 : ((bt a0 x6_1) != 13) = false := bne_eq_false_iff_eq.mpr c9
                    clear c9
                    have H' := Aside0.mk H
                    clear H
                    go_wp2
                    go_meet
                    case rel => exact ⟨_, (true), (by first | rfl | (simp; done) | (simp [*]; done)), H', ⟨by have := HK1.out; first | omega | exact Nat.le_refl _⟩, ⟨by (with_reducible repeat (first | apply Kd.R_alloc | apply Kd.R_drewN | apply Kd.R_drew)); exact HO_5.out⟩, ⟨by repeat (first | (with_reducible first | exact HB.out | apply below_alloc | apply pw_below_drewN | apply below_drew1) | exact HB.out)⟩⟩
                  · rw [if_neg c9] at H
                    have c9b0 : ((bt a0 x6_1) == 13) = false := beq_eq_false_iff_ne.mpr c9
                    have c9b1 : ((bt a0 x6_1) != 13) = true := bne_iff_ne.mpr c9
                    have H' := Aside0.mk H
                    clear H
                    go_wp2
                    go_meet
                    case rel => exact ⟨_, (((bt a0 x6_1) == 32)), (by first | rfl | (simp; done) | (simp [*]; done)), H', ⟨by have := HK1.out; first | omega | exact Nat.le_refl _⟩, ⟨by (with_reducible repeat (first | apply Kd.R_alloc | apply Kd.R_drewN | apply Kd.R_drew)); exact HO_5.out⟩, ⟨by repeat (first | (with_reducible first | exact HB.out | apply below_alloc | apply pw_below_drewN | apply below_drew1) | exact HB.out)⟩⟩
            case rest =>
              clear HC6
              try clear c1
              try clear c2
              try clear c2b0
              try clear c2b1
              try clear p2
              try clear c3
              try clear c3b0
              try clear c4
              try clear c4b0
              try clear p5
              try clear q5
              try clear hx5
              try clear c7
              try clear c7b0
              try clear c7b1
              try clear c8
              try clear c8b0
              try clear c8b1
              try clear c9
              try clear c9b0
              try clear c9b1
              try clear p2
              try clear p5
              try clear q5
              obtain ⟨kq, x33_5, rfl, HA, HJ5, HO_5, HB⟩ := hcut
              cases kq with
              | zero => exact absurd HA.out (by simp [majordomoref11_Lex.j1])
              | succ kj5 =>
                have H := HA.out
                clear HA
                simp only [majordomoref11_Lex.j1] at H
                by_cases c10 : x33_5 = true
                · subst c10
                  have H1 : (majordomoref11_Lex.l0 kj5 a0 x5_1 (wrap64 (x6_1 + 1))) = some (r1, r2, r3) := by rw [if_pos rfl] at H; exact H
                  clear H
                  have H := H1
                  clear H1
                  have H' := Aside0.mk H
                  clear H
                  go_wp2
                  go_roundg kj5
                  case measure => have := HK1.out; have := HJ5.out; omega
                  case rel => exact ⟨(x5_1), (wrap64 (x6_1 + 1)), (by first | rfl | (simp; done) | (simp [*]; done)), H', ⟨by have := HK1.out; have := HJ5.out; omega⟩, ⟨by (with_reducible repeat (first | apply Kd.R_alloc | apply Kd.R_drewN | apply Kd.R_drew)); exact HO_5.out⟩, ⟨by repeat (first | (with_reducible first | exact HB.out | apply below_alloc | apply pw_below_drewN | apply below_drew1) | exact HB.out)⟩⟩
                · replace c10 := Bool.eq_false_iff.mpr c10
                  subst c10
                  have H1 : (if (bt a0 x6_1) = 35 then (majordomoref11_Lex.l1 kj5 a0 x5_1 x6_1) else (if 0 ≤ x6_1 then (if x6_1 ≤ (a0.size : Int) then ((majordomoref11_reach.f kj5 (a0.extract (x6_1 : Int).toNat a0.size)).bind fun t121 => (if x6_1 ≤ (wrap64 (x6_1 + t121)) then (if (wrap64 (x6_1 + t121)) ≤ (a0.size : Int) then ((majordomoref11_word.f kj5 (a0.extract (x6_1 : Int).toNat ((wrap64 (x6_1 + t121)) : Int).toNat)).bind fun bt122 => (majordomoref11_Lex.l2 kj5 a0 x5_1 x6_1 t121 bt122.1 bt122.2.1 bt122.2.2)) else (none)) else (none))) else (none)) else (none))) = some (r1, r2, r3) := by rw [if_neg (show ¬ (false = true) by decide)] at H; exact H
                  clear H
                  have H := H1
                  clear H1
                  by_cases c11 : (bt a0 x6_1) = 35
                  · rw [if_pos c11] at H
                    have c11b0 : ((bt a0 x6_1) == 35) = true := beq_iff_eq.mpr c11
                    have c11b1 : ((bt a0 x6_1) != 35) = false := bne_eq_false_iff_eq.mpr c11
                    clear c11
                    have H' := Aside0.mk H
                    clear H
                    go_wp2
                    go_loopg [6] kj5 (fun kq v6 w' => ∃ (x6_3 : Int), v6 = .int .i64 x6_3 ∧ Aside0 (majordomoref11_Lex.l1 kq a0 x5_1 x6_3 = some (r1, r2, r3)) ∧ Aside0 (kq ≤ kj5) ∧ Aside0 (Kd.R k37 37 w' w.heap.size (fun _ => True) u5 x5_1) ∧ Aside0 (Below w.heap.size w w'))
                    case atStart => exact ⟨(x6_1), (by first | rfl | (simp; done) | (simp [*]; done)), H', ⟨Nat.le_refl _⟩, ⟨by (with_reducible repeat (first | apply Kd.R_alloc | apply Kd.R_drewN | apply Kd.R_drew)); exact HO_5.out⟩, ⟨by repeat (first | (with_reducible first | exact HB.out | apply below_alloc | apply pw_below_drewN | apply below_drew1) | exact HB.out)⟩⟩
                    case round =>
                      clear H'
                      try clear c1
                      try clear c2
                      try clear c2b0
                      try clear c2b1
                      try clear p2
                      try clear c3
                      try clear c3b0
                      try clear c4
                      try clear c4b0
                      try clear p5
                      try clear q5
                      try clear hx5
                      try clear p6
                      try clear c7
                      try clear c7b0
                      try clear c7b1
                      try clear c8
                      try clear c8b0
                      try clear c8b1
                      try clear c9
                      try clear c9b0
                      try clear c9b1
                      try clear c10
                      try clear c11
                      try clear c11b0
                      try clear c11b1
                      try clear p2
                      try clear p5
                      try clear q5
                      obtain ⟨x6_3, rfl, HA, HK3, HO_5, HB⟩ := hrel
                      cases gk with
                      | zero => exact absurd HA.out (by simp [majordomoref11_Lex.l1])
                      | succ k3 =>
                        have H := HA.out
                        clear HA
                        simp only [majordomoref11_Lex.l1] at H
                        by_cases c12 : x6_3 < (a0.size : Int)
                        · rw [if_pos c12] at H
                          have c12b0 : decide (x6_3 < (a0.size : Int)) = true := decide_eq_true c12
                          clear c12
                          by_cases c13 : 0 ≤ x6_3
                          · rw [if_pos c13] at H
                            have c13b0 : decide (0 ≤ x6_3) = true := decide_eq_true c13
                            clear c13
                            by_cases c15 : (bt a0 x6_3) = 10
                            · rw [if_pos c15] at H
                              have c15b0 : ((bt a0 x6_3) == 10) = true := beq_iff_eq.mpr c15
                              have c15b1 : ((bt a0 x6_3) != 10) = false := bne_eq_false_iff_eq.mpr c15
                              clear c15
                              have H' := Aside0.mk H
                              clear H
                              have p14 : 0 ≤ (x6_3 : Int) := of_decide_eq_true (by first | (with_reducible assumption) | assumption)
                              have q14 : x6_3 < (a0.size : Int) := of_decide_eq_true (by first | (with_reducible assumption) | assumption)
                              have hx14 := bt_at a0 x6_3
                              replace p14 := eq_true p14
                              replace q14 := eq_true q14
                              go_wp2
                              go_roundg k3
                              case measure => have := HK1.out; have := HJ5.out; have := HK3.out; omega
                              case rel => exact ⟨(x5_1), (x6_3), (by first | rfl | (simp; done) | (simp [*]; done)), H', ⟨by have := HK1.out; have := HJ5.out; have := HK3.out; omega⟩, ⟨by (with_reducible repeat (first | apply Kd.R_alloc | apply Kd.R_drewN | apply Kd.R_drew)); exact HO_5.out⟩, ⟨by repeat (first | (with_reducible first | exact HB.out | apply below_alloc | apply pw_below_drewN | apply below_drew1) | exact HB.out)⟩⟩
                            · rw [if_neg c15] at H
                              have c15b0 : ((bt a0 x6_3) == 10) = false := beq_eq_false_iff_ne.mpr c15
                              have c15b1 : ((bt a0 x6_3) != 10) = true := bne_iff_ne.mpr c15
                              have H' := Aside0.mk H
                              clear H
                              have p14 : 0 ≤ (x6_3 : Int) := of_decide_eq_true (by first | (with_reducible assumption) | assumption)
                              have q14 : x6_3 < (a0.size : Int) := of_decide_eq_true (by first | (with_reducible assumption) | assumption)
                              have hx14 := bt_at a0 x6_3
                              replace p14 := eq_true p14
                              replace q14 := eq_true q14
                              go_wp2
                              go_roundg k3
                              case measure => have := HK1.out; have := HJ5.out; have := HK3.out; omega
                              case rel => exact ⟨(wrap64 (x6_3 + 1)), (by first | rfl | (simp; done) | (simp [*]; done)), H', ⟨by have := HK1.out; have := HJ5.out; have := HK3.out; omega⟩, ⟨by (with_reducible repeat (first | apply Kd.R_alloc | apply Kd.R_drewN | apply Kd.R_drew)); exact HO_5.out⟩, ⟨by repeat (first | (with_reducible first | exact HB.out | apply below_alloc | apply pw_below_drewN | apply below_drew1) | exact HB.out)⟩⟩
                          · rw [if_neg c13] at H
                            exact absurd H (by simp)
                        · rw [if_neg c12] at H
                          have c12b0 : decide (x6_3 < (a0.size : Int)) = false := decide_eq_false c12
                          clear c12
                          have H' := Aside0.mk H
                          clear H
                          go_wp2
                          go_roundg k3
                          case measure => have := HK1.out; have := HJ5.out; have := HK3.out; omega
                          case rel => exact ⟨(x5_1), (x6_3), (by first | rfl | (simp; done) | (simp [*]; done)), H', ⟨by have := HK1.out; have := HJ5.out; have := HK3.out; omega⟩, ⟨by (with_reducible repeat (first | apply Kd.R_alloc | apply Kd.R_drewN | apply Kd.R_drew)); exact HO_5.out⟩, ⟨by repeat (first | (with_reducible first | exact HB.out | apply below_alloc | apply pw_below_drewN | apply below_drew1) | exact HB.out)⟩⟩
                  · rw [if_neg c11] at H
                    have c11b0 : ((bt a0 x6_1) == 35) = false := beq_eq_false_iff_ne.mpr c11
                    have c11b1 : ((bt a0 x6_1) != 35) = true := bne_iff_ne.mpr c11
                    by_cases c16 : 0 ≤ x6_1
                    · rw [if_pos c16] at H
                      have c16b0 := eq_true c16
                      have c16b1 : decide (0 ≤ x6_1) = true := decide_eq_true c16
                      clear c16
                      by_cases c17 : x6_1 ≤ (a0.size : Int)
                      · rw [if_pos c17] at H
                        have c17b0 := eq_true c17
                        have c17b1 : decide (x6_1 ≤ (a0.size : Int)) = true := decide_eq_true c17
                        clear c17
                        replace H := Option.bind_eq_some_iff.mp H
                        obtain ⟨t121, A180, H⟩ := H
                        replace H : (if x6_1 ≤ (wrap64 (x6_1 + t121)) then (if (wrap64 (x6_1 + t121)) ≤ (a0.size : Int) then ((majordomoref11_word.f kj5 (a0.extract (x6_1 : Int).toNat ((wrap64 (x6_1 + t121)) : Int).toNat)).bind fun bt122 => (majordomoref11_Lex.l2 kj5 a0 x5_1 x6_1 t121 bt122.1 bt122.2.1 bt122.2.2)) else (none)) else (none)) = some (r1, r2, r3) := H
                        have A18 := Aside0.mk A180
                        clear A180
                        have c19b0 := eq_true (of_decide_eq_true (by first | (with_reducible assumption) | assumption) : 0 ≤ x6_1)
                        by_cases c20 : x6_1 ≤ (wrap64 (x6_1 + t121))
                        · rw [if_pos c20] at H
                          have c20b0 := eq_true c20
                          have c20b1 : decide (x6_1 ≤ (wrap64 (x6_1 + t121))) = true := decide_eq_true c20
                          by_cases c21 : (wrap64 (x6_1 + t121)) ≤ (a0.size : Int)
                          · rw [if_pos c21] at H
                            have c21b0 := eq_true c21
                            have c21b1 : decide ((wrap64 (x6_1 + t121)) ≤ (a0.size : Int)) = true := decide_eq_true c21
                            replace H := Option.bind_eq_some_iff.mp H
                            obtain ⟨⟨t122, t123, t124⟩, A220, H⟩ := H
                            replace H : (majordomoref11_Lex.l2 kj5 a0 x5_1 x6_1 t121 t122 t123 t124) = some (r1, r2, r3) := H
                            have A22 := Aside0.mk A220
                            clear A220
                            have H' := Aside0.mk H
                            clear H
                            go_wp2_with (first | ((with_reducible refine gate_callee (f := 15) rfl ?_); refine goesL_ (some 53) rfl rfl Try.func15 (by kernel_rfl) rfl #[.string (a0.extract (x6_1 : Int).toNat a0.size)] rfl (by (try simp only [List.map_toArray, List.map_cons, List.map_nil]); first | done | rfl | (simp only [List.length_drop, List.length_take]; rfl)) ?_; (with_reducible refine (majordomoref11_reach.calls kj5 (a0.extract (x6_1 : Int).toNat a0.size) t121 _ A18.out).mono ?_); rintro e w23 ⟨rfl, hb⟩; refine ⟨_, rfl, ?_⟩; have n0_ := Aside0.mk (Kd.R_below (by (with_reducible repeat (first | apply Kd.R_alloc | apply Kd.R_drewN | apply Kd.R_drew)); exact HO_5.out) hb); have n1_ := Aside0.mk (below_step (by repeat (first | (with_reducible first | exact HB.out | apply below_alloc | apply pw_below_drewN | apply below_drew1) | exact HB.out)) hb); clear HO_5; clear HB; have HO_5 := n0_; have HB := n1_; clear n0_ n1_; (try clear hb); (try clear hb2); (try clear hk); (try clear hi)) | ((with_reducible refine gate_callee (f := 16) rfl ?_); refine goesL_ (some 60) rfl rfl Try.func16 (by kernel_rfl) rfl #[.string (a0.extract (x6_1 : Int).toNat ((wrap64 (x6_1 + t121)) : Int).toNat)] rfl (by (try simp only [List.map_toArray, List.map_cons, List.map_nil]); first | done | rfl | (simp only [List.length_drop, List.length_take]; rfl)) ?_; (with_reducible refine (majordomoref11_word.calls kj5 (a0.extract (x6_1 : Int).toNat ((wrap64 (x6_1 + t121)) : Int).toNat) t122 t123 t124 _ A22.out).mono ?_); rintro e w24 ⟨rfl, hb⟩; refine ⟨_, rfl, ?_⟩; have n0_ := Aside0.mk (Kd.R_below (by (with_reducible repeat (first | apply Kd.R_alloc | apply Kd.R_drewN | apply Kd.R_drew)); exact HO_5.out) hb); have n1_ := Aside0.mk (below_step (by repeat (first | (with_reducible first | exact HB.out | apply below_alloc | apply pw_below_drewN | apply below_drew1) | exact HB.out)) hb); clear HO_5; clear HB; have HO_5 := n0_; have HB := n1_; clear n0_ n1_; (try clear hb); (try clear hb2); (try clear hk); (try clear hi)) | ((with_reducible refine gate_dst (N := 9) rfl ?_); refine box_event ?hg (N := 9) ?hd (cs := #[.int .i64 0, .string (⟨#[]⟩ : ByteArray), .int .i64 0]) (t := 37) ?hr ?_; (case hd => rfl); (case hg => rfl); (case hr => first | (go_simp; done) | (go_simp; rfl)); intro gb125 hg w25 hbox hb; have n0_ := Aside0.mk (Kd.R_below (Kd.R_elderB (by (with_reducible repeat (first | apply Kd.R_alloc | apply Kd.R_drewN | apply Kd.R_drew)); exact HO_5.out) gb125 (Nat.le_of_eq hg.symm)) hb); have n1_ := Aside0.mk (below_step (by repeat (first | (with_reducible first | exact HB.out | apply below_alloc | apply pw_below_drewN | apply below_drew1) | exact HB.out)) hb); have n2_ := Aside0.mk (hbox); have n3_ := Aside0.mk ((by rw [hg]; exact (below_size (by repeat (first | (with_reducible first | exact HB.out | apply below_alloc | apply pw_below_drewN | apply below_drew1) | exact HB.out))) : w.heap.size ≤ gb125)); have n4_ := Aside0.mk ((by rw [hg]; exact (below_size (by repeat (first | (with_reducible first | exact HB.out | apply below_alloc | apply pw_below_drewN | apply below_drew1) | exact HB.out))) : w.heap.size ≤ gb125)); clear HO_5; clear HB; have HO_5 := n0_; have HB := n1_; have BK125 := n2_; have GW125 := n3_; have GE125 := n4_; clear n0_ n1_ n2_ n3_ n4_; clear hb hbox hg; have hcz26_0 : w25.cell? ⟨gb125, 0, none⟩ = some (.int .i64 0) := (blk_cell BK125.out 0).trans rfl; have hcz26_1 : w25.cell? ⟨gb125, 1, none⟩ = some (.string (⟨#[]⟩ : ByteArray)) := (blk_cell BK125.out 1).trans rfl; have hcz26_2 : w25.cell? ⟨gb125, 2, none⟩ = some (.int .i64 0) := (blk_cell BK125.out 2).trans rfl; have hfz26_0 := blk_frozen BK125.out 0; have hfz26_1 := blk_frozen BK125.out 1; have hfz26_2 := blk_frozen BK125.out 2))
                            go_loopg [8] kj5 (fun kq v8 w' => ∃ (x8_3 : Int) (x126000_3 : Int) (x126001_3 : ByteArray) (x126002_3 : Int), v8 = .int .i64 x8_3 ∧ Aside0 (majordomoref11_Lex.l2 kq a0 x5_1 x6_1 x8_3 x126000_3 x126001_3 x126002_3 = some (r1, r2, r3)) ∧ Aside0 (kq ≤ kj5) ∧ Aside0 (Kd.R k37 37 w' w.heap.size (fun k_ => k_ ≠ gb125) u5 x5_1) ∧ Aside0 (w'.heap[gb125]? = some (.cells #[.int .i64 x126000_3, .string x126001_3, .int .i64 x126002_3] 37 (0, 0))) ∧ Aside0 (Below w.heap.size w w'))
                            case atStart => exact ⟨(t121), (t122), (t123), (t124), (by first | rfl | (simp; done) | (simp [*]; done)), H', ⟨Nat.le_refl _⟩, ⟨by (with_reducible repeat (first | apply Kd.R_alloc | apply Kd.R_drewN | apply Kd.R_drew)); exact Kd.R_mono (Kd.R_far (p := ⟨gb125, 2, none⟩) (Kd.R_far (p := ⟨gb125, 1, none⟩) (Kd.R_far (p := ⟨gb125, 0, none⟩) (Kd.R_mono HO_5.out (fun k_ hk => (⟨hk, hk.2⟩ : _ ∧ k_ ≠ gb125))) (fun _ hk => hk.2) (.int .i64 t122)) (fun _ hk => hk.2) (.string t123)) (fun _ hk => hk.2) (.int .i64 t124)) (fun _ hk => hk.1.2)⟩, ⟨by (with_reducible repeat (first | refine blk_drewN ?_ _ | refine blk_drew ?_ | refine blk_alloc ?_ _)); refine blk_put (cs := #[.int .i64 t122, .string t123, .int .i64 0]) ?_ 2 _ rfl; (with_reducible repeat (first | refine blk_drewN ?_ _ | refine blk_drew ?_ | refine blk_alloc ?_ _)); refine blk_put (cs := #[.int .i64 t122, .string (⟨#[]⟩ : ByteArray), .int .i64 0]) ?_ 1 _ rfl; (with_reducible repeat (first | refine blk_drewN ?_ _ | refine blk_drew ?_ | refine blk_alloc ?_ _)); refine blk_put (cs := #[.int .i64 0, .string (⟨#[]⟩ : ByteArray), .int .i64 0]) ?_ 0 _ rfl; (with_reducible repeat (first | refine blk_drewN ?_ _ | refine blk_drew ?_ | refine blk_alloc ?_ _)); exact BK125.out⟩, ⟨by repeat (first | (with_reducible first | exact HB.out | apply below_alloc | apply pw_below_drewN | apply below_drew1 | refine below_set ?_ GE125.out) | exact HB.out)⟩⟩
                            case round =>
                              clear H'
                              try clear c1
                              try clear p1
                              try clear q1
                              try clear hx1
                              try clear c2
                              try clear c2b0
                              try clear c2b1
                              try clear p2
                              try clear c3
                              try clear c3b0
                              try clear c4
                              try clear c4b0
                              try clear p5
                              try clear q5
                              try clear hx5
                              try clear p6
                              try clear c7
                              try clear c7b0
                              try clear c7b1
                              try clear c8
                              try clear c8b0
                              try clear c8b1
                              try clear c9
                              try clear c9b0
                              try clear c9b1
                              try clear c10
                              try clear c11
                              try clear c11b0
                              try clear c11b1
                              try clear c12
                              try clear c12b0
                              try clear c13
                              try clear c13b0
                              try clear p14
                              try clear q14
                              try clear hx14
                              try clear c15
                              try clear c15b0
                              try clear c15b1
                              try clear c16
                              try clear c16b0
                              try clear c16b1
                              try clear c17
                              try clear c17b0
                              try clear c17b1
                              try clear c19
                              try clear c19b0
                              try clear c20
                              try clear c20b0
                              try clear c20b1
                              try clear c21
                              try clear c21b0
                              try clear c21b1
                              try clear hcz26_0
                              try clear hcz26_1
                              try clear hcz26_2
                              try clear hfz26_0
                              try clear hfz26_1
                              try clear hfz26_2
                              try clear p14
                              try clear p2
                              try clear p5
                              try clear p6
                              try clear q14
                              try clear q5
                              obtain ⟨x8_3, x126000_3, x126001_3, x126002_3, rfl, HA, HK3, HO_5, BK125, HB⟩ := hrel
                              cases gk with
                              | zero => exact absurd HA.out (by simp [majordomoref11_Lex.l2])
                              | succ k3 =>
                                have H := HA.out
                                clear HA
                                simp only [majordomoref11_Lex.l2] at H
                                by_cases c27 : x8_3 > 0
                                · rw [if_pos c27] at H
                                  have c27b0 : decide (0 < x8_3) = true := decide_eq_true c27
                                  clear c27
                                  by_cases c28 : x126000_3 = 0
                                  · rw [if_pos c28] at H
                                    have c28b0 : (x126000_3 == 0) = true := beq_iff_eq.mpr c28
                                    have c28b1 : (x126000_3 != 0) = false := bne_eq_false_iff_eq.mpr c28
                                    clear c28
                                    by_cases c29 : 0 ≤ x6_1
                                    · rw [if_pos c29] at H
                                      have c29b0 := eq_true c29
                                      have c29b1 : decide (0 ≤ x6_1) = true := decide_eq_true c29
                                      clear c29
                                      by_cases c30 : x6_1 ≤ (wrap64 (x6_1 + (wrap64 (x8_3 - 1))))
                                      · rw [if_pos c30] at H
                                        have c30b0 := eq_true c30
                                        have c30b1 : decide (x6_1 ≤ (wrap64 (x6_1 + (wrap64 (x8_3 - 1))))) = true := decide_eq_true c30
                                        by_cases c31 : (wrap64 (x6_1 + (wrap64 (x8_3 - 1)))) ≤ (a0.size : Int)
                                        · rw [if_pos c31] at H
                                          have c31b0 := eq_true c31
                                          have c31b1 : decide ((wrap64 (x6_1 + (wrap64 (x8_3 - 1)))) ≤ (a0.size : Int)) = true := decide_eq_true c31
                                          replace H := Option.bind_eq_some_iff.mp H
                                          obtain ⟨⟨t126, t127, t128⟩, A320, H⟩ := H
                                          replace H : (majordomoref11_Lex.l2 k3 a0 x5_1 x6_1 (wrap64 (x8_3 - 1)) t126 t127 t128) = some (r1, r2, r3) := H
                                          have A32 := Aside0.mk A320
                                          clear A320
                                          have H' := Aside0.mk H
                                          clear H
                                          have hcz33_0 : wr.cell? ⟨gb125, 0, none⟩ = some (.int .i64 x126000_3) := (blk_cell BK125.out 0).trans rfl
                                          have hcz33_1 : wr.cell? ⟨gb125, 1, none⟩ = some (.string x126001_3) := (blk_cell BK125.out 1).trans rfl
                                          have hcz33_2 : wr.cell? ⟨gb125, 2, none⟩ = some (.int .i64 x126002_3) := (blk_cell BK125.out 2).trans rfl
                                          have hfz33_0 := blk_frozen BK125.out 0
                                          have hfz33_1 := blk_frozen BK125.out 1
                                          have hfz33_2 := blk_frozen BK125.out 2
                                          go_wp2_with (first | ((with_reducible refine gate_callee (f := 16) rfl ?_); refine goesL_ (some 76) rfl rfl Try.func16 (by kernel_rfl) rfl #[.string (a0.extract (x6_1 : Int).toNat ((wrap64 (x6_1 + (wrap64 (x8_3 - 1)))) : Int).toNat)] rfl (by (try simp only [List.map_toArray, List.map_cons, List.map_nil]); first | done | rfl | (simp only [List.length_drop, List.length_take]; rfl)) ?_; (with_reducible refine (majordomoref11_word.calls k3 (a0.extract (x6_1 : Int).toNat ((wrap64 (x6_1 + (wrap64 (x8_3 - 1)))) : Int).toNat) t126 t127 t128 _ A32.out).mono ?_); rintro e w34 ⟨rfl, hb⟩; refine ⟨_, rfl, ?_⟩; have n0_ := Aside0.mk (Kd.R_below (by (with_reducible repeat (first | apply Kd.R_alloc | apply Kd.R_drewN | apply Kd.R_drew)); exact HO_5.out) hb); have n1_ := Aside0.mk (blk_below (g := gb125) (o := .cells #[.int .i64 x126000_3, .string x126001_3, .int .i64 x126002_3] 37 (0, 0)) (by (with_reducible repeat (first | refine blk_drewN ?_ _ | refine blk_drew ?_ | refine blk_alloc ?_ _)); exact BK125.out) hb); have n2_ := Aside0.mk (below_step (by repeat (first | (with_reducible first | exact HB.out | apply below_alloc | apply pw_below_drewN | apply below_drew1 | refine below_set ?_ GE125.out) | exact HB.out)) hb); clear HO_5; clear BK125; clear HB; have HO_5 := n0_; have BK125 := n1_; have HB := n2_; clear n0_ n1_ n2_; (try clear hb); (try clear hb2); (try clear hk); (try clear hi); have hcz35_0 : w34.cell? ⟨gb125, 0, none⟩ = some (.int .i64 x126000_3) := (blk_cell BK125.out 0).trans rfl; have hcz35_1 : w34.cell? ⟨gb125, 1, none⟩ = some (.string x126001_3) := (blk_cell BK125.out 1).trans rfl; have hcz35_2 : w34.cell? ⟨gb125, 2, none⟩ = some (.int .i64 x126002_3) := (blk_cell BK125.out 2).trans rfl; have hfz35_0 := blk_frozen BK125.out 0; have hfz35_1 := blk_frozen BK125.out 1; have hfz35_2 := blk_frozen BK125.out 2))
                                          go_roundg k3
                                          case measure => have := HK1.out; have := HJ5.out; have := HK3.out; omega
                                          case rel => exact ⟨(wrap64 (x8_3 - 1)), (t126), (t127), (t128), (by first | rfl | (simp; done) | (simp [*]; done)), H', ⟨by have := HK1.out; have := HJ5.out; have := HK3.out; omega⟩, ⟨by (with_reducible repeat (first | apply Kd.R_alloc | apply Kd.R_drewN | apply Kd.R_drew)); exact Kd.R_mono (Kd.R_far (p := ⟨gb125, 2, none⟩) (Kd.R_far (p := ⟨gb125, 1, none⟩) (Kd.R_far (p := ⟨gb125, 0, none⟩) (Kd.R_mono HO_5.out (fun k_ hk => (⟨hk, hk⟩ : _ ∧ k_ ≠ gb125))) (fun _ hk => hk.2) (.int .i64 t126)) (fun _ hk => hk.2) (.string t127)) (fun _ hk => hk.2) (.int .i64 t128)) (fun _ hk => hk.1)⟩, ⟨by (with_reducible repeat (first | refine blk_drewN ?_ _ | refine blk_drew ?_ | refine blk_alloc ?_ _)); refine blk_put (cs := #[.int .i64 t126, .string t127, .int .i64 x126002_3]) ?_ 2 _ rfl; (with_reducible repeat (first | refine blk_drewN ?_ _ | refine blk_drew ?_ | refine blk_alloc ?_ _)); refine blk_put (cs := #[.int .i64 t126, .string x126001_3, .int .i64 x126002_3]) ?_ 1 _ rfl; (with_reducible repeat (first | refine blk_drewN ?_ _ | refine blk_drew ?_ | refine blk_alloc ?_ _)); refine blk_put (cs := #[.int .i64 x126000_3, .string x126001_3, .int .i64 x126002_3]) ?_ 0 _ rfl; (with_reducible repeat (first | refine blk_drewN ?_ _ | refine blk_drew ?_ | refine blk_alloc ?_ _)); exact BK125.out⟩, ⟨by repeat (first | (with_reducible first | exact HB.out | apply below_alloc | apply pw_below_drewN | apply below_drew1 | refine below_set ?_ GE125.out) | exact HB.out)⟩⟩
                                        · rw [if_neg c31] at H
                                          exact absurd H (by simp)
                                      · rw [if_neg c30] at H
                                        exact absurd H (by simp)
                                    · rw [if_neg c29] at H
                                      exact absurd H (by simp)
                                  · rw [if_neg c28] at H
                                    have c28b0 : (x126000_3 == 0) = false := beq_eq_false_iff_ne.mpr c28
                                    have c28b1 : (x126000_3 != 0) = true := bne_iff_ne.mpr c28
                                    by_cases c36 : x8_3 = 0
                                    · rw [if_pos c36] at H
                                      have c36b0 : (x8_3 == 0) = true := beq_iff_eq.mpr c36
                                      have c36b1 : (x8_3 != 0) = false := bne_eq_false_iff_eq.mpr c36
                                      clear c36
                                      simp only [Option.some.injEq, Prod.mk.injEq] at H
                                      obtain ⟨rfl, rfl, rfl⟩ := H
                                      have hcz37_0 : wr.cell? ⟨gb125, 0, none⟩ = some (.int .i64 x126000_3) := (blk_cell BK125.out 0).trans rfl
                                      have hcz37_1 : wr.cell? ⟨gb125, 1, none⟩ = some (.string x126001_3) := (blk_cell BK125.out 1).trans rfl
                                      have hcz37_2 : wr.cell? ⟨gb125, 2, none⟩ = some (.int .i64 x126002_3) := (blk_cell BK125.out 2).trans rfl
                                      have hfz37_0 := blk_frozen BK125.out 0
                                      have hfz37_1 := blk_frozen BK125.out 1
                                      have hfz37_2 := blk_frozen BK125.out 2
                                      go_wp2
                                      go_ret3
                                      exact ⟨_, by first | rfl | (simp [errW_none, errW_some] <;> rfl) | (simp [*, errW_none, errW_some] <;> rfl), by first | exact Kd.R_nil _ _ _ _ _ | exact Kd.N_nil _ _ _ _ _ | exact Kd.V_nil _ _ _ _ _ | exact Kd.Q_nil _ _ _ _ _ | exact Kd.S_nil _ _ _ _ _, by repeat (first | (with_reducible first | exact HB.out | apply below_alloc | apply pw_below_drewN | apply below_drew1 | refine below_set ?_ GE125.out) | exact HB.out)⟩
                                    · rw [if_neg c36] at H
                                      have c36b0 : (x8_3 == 0) = false := beq_eq_false_iff_ne.mpr c36
                                      have c36b1 : (x8_3 != 0) = true := bne_iff_ne.mpr c36
                                      by_cases c38 : x126000_3 = 6
                                      · rw [if_pos c38] at H
                                        have c38b0 : (x126000_3 == 6) = true := beq_iff_eq.mpr c38
                                        have c38b1 : (x126000_3 != 6) = false := bne_eq_false_iff_eq.mpr c38
                                        clear c38
                                        by_cases c39 : x8_3 > 9
                                        · rw [if_pos c39] at H
                                          have c39b0 : decide (9 < x8_3) = true := decide_eq_true c39
                                          clear c39
                                          simp only [Option.some.injEq, Prod.mk.injEq] at H
                                          obtain ⟨rfl, rfl, rfl⟩ := H
                                          have hcz40_0 : wr.cell? ⟨gb125, 0, none⟩ = some (.int .i64 x126000_3) := (blk_cell BK125.out 0).trans rfl
                                          have hcz40_1 : wr.cell? ⟨gb125, 1, none⟩ = some (.string x126001_3) := (blk_cell BK125.out 1).trans rfl
                                          have hcz40_2 : wr.cell? ⟨gb125, 2, none⟩ = some (.int .i64 x126002_3) := (blk_cell BK125.out 2).trans rfl
                                          have hfz40_0 := blk_frozen BK125.out 0
                                          have hfz40_1 := blk_frozen BK125.out 1
                                          have hfz40_2 := blk_frozen BK125.out 2
                                          go_wp2
                                          go_ret3
                                          exact ⟨_, by first | rfl | (simp [errW_none, errW_some] <;> rfl) | (simp [*, errW_none, errW_some] <;> rfl), by first | exact Kd.R_nil _ _ _ _ _ | exact Kd.N_nil _ _ _ _ _ | exact Kd.V_nil _ _ _ _ _ | exact Kd.Q_nil _ _ _ _ _ | exact Kd.S_nil _ _ _ _ _, by repeat (first | (with_reducible first | exact HB.out | apply below_alloc | apply pw_below_drewN | apply below_drew1 | refine below_set ?_ GE125.out) | exact HB.out)⟩
                                        · rw [if_neg c39] at H
                                          have c39b0 : decide (9 < x8_3) = false := decide_eq_false c39
                                          clear c39
                                          by_cases c41 : x5_1.length < 4398046511104
                                          · rw [if_pos c41] at H
                                            have LMc41 := Aside0.mk c41
                                            clear c41
                                            obtain ⟨y129, hy129⟩ : ∃ y_ : List (S37), y_ = (x5_1 ++ [(⟨x126000_3, x126001_3, x6_1⟩ : S37)]) := ⟨_, rfl⟩
                                            replace H : (majordomoref11_Lex.l0 k3 a0 y129 (wrap64 (x6_1 + x8_3))) = some (r1, r2, r3) := by first | (rw [hy129]; with_reducible exact H) | (have H2_ := (Option.bind_some _ _).symm.trans H; rw [hy129]; with_reducible exact H2_) | (have H2_ := (Option.bind_some _ _).symm.trans H; with_reducible exact H2_) | with_reducible exact H | (rw [hy129]; exact H) | exact H
                                            have Ny129 := Aside0.mk hy129
                                            clear hy129
                                            have H' := Aside0.mk H
                                            clear H
                                            have hcz42_0 : wr.cell? ⟨gb125, 0, none⟩ = some (.int .i64 x126000_3) := (blk_cell BK125.out 0).trans rfl
                                            have hcz42_1 : wr.cell? ⟨gb125, 1, none⟩ = some (.string x126001_3) := (blk_cell BK125.out 1).trans rfl
                                            have hcz42_2 : wr.cell? ⟨gb125, 2, none⟩ = some (.int .i64 x126002_3) := (blk_cell BK125.out 2).trans rfl
                                            have hfz42_0 := blk_frozen BK125.out 0
                                            have hfz42_1 := blk_frozen BK125.out 1
                                            have hfz42_2 := blk_frozen BK125.out 2
                                            go_wp2_with (first | ((with_reducible refine gate_builtin (b := .append) (xs := #[.tmp 91, .tmp 93]) rfl ?_); at_builtin; refine Kd.R_append k37 (w0 := w) w.heap.size rfl (.tmp 91) (.tmp 93) 29 37 (.agg #[(.int .i64 0), (.string ⟨#[]⟩), (.int .i64 0)]) 32 rfl Try.underlying29 info37 rfl (by decide) (by omega) u5 x5_1 (⟨x126000_3, x126001_3, x6_1⟩ : S37) [.int .i64 x126000_3, .string x126001_3, .int .i64 x6_1] (fun k_ => k_ ≠ gb125) (fun _ => False) rfl (by first | (go_simp; done) | (go_simp; rfl)) ?aP (fun _ hk => hk.elim) ?aF ?aO ?aB ?aS ?aL ?_; (case aP => exact k37_mkM _ _ _ (⟨x126000_3, x126001_3, x6_1⟩ : S37)); (case aB => exact (by repeat (first | (with_reducible first | exact HB.out | apply below_alloc | apply pw_below_drewN | apply below_drew1 | refine below_set ?_ GE125.out) | exact HB.out))); (case aF => exact (fun k_ hk => Kd.freshB (g := gb125) (o := .cells #[.int .i64 x126000_3, .string x126001_3, .int .i64 x6_1] 37 (0, 0)) (by (with_reducible repeat (first | refine blk_drewN ?_ _ | refine blk_drew ?_ | refine blk_alloc ?_ _)); refine blk_put (cs := #[.int .i64 x126000_3, .string x126001_3, .int .i64 x126002_3]) ?_ 2 _ rfl; (with_reducible repeat (first | refine blk_drewN ?_ _ | refine blk_drew ?_ | refine blk_alloc ?_ _)); exact BK125.out) k_ hk)); (case aO => exact (by (with_reducible repeat (first | apply Kd.R_alloc | apply Kd.R_drewN | apply Kd.R_drew)); exact Kd.R_mono (Kd.R_far (p := ⟨gb125, 2, none⟩) (Kd.R_mono HO_5.out (fun k_ hk => (⟨hk, hk⟩ : _ ∧ k_ ≠ gb125))) (fun _ hk => hk.2) (.int .i64 x6_1)) (fun _ hk => hk.1))); (case aS => exact (below_size (by repeat (first | (with_reducible first | exact HB.out | apply below_alloc | apply pw_below_drewN | apply below_drew1 | refine below_set ?_ GE125.out) | exact HB.out)))); (case aL => have := LMc41.out; omega); intro v130 w43 ho hb hg hat; rw [← Ny129.out] at ho; have n0_ := Aside0.mk (blk_grown (g := gb125) (o := .cells #[.int .i64 x126000_3, .string x126001_3, .int .i64 x6_1] 37 (0, 0)) (by (with_reducible repeat (first | refine blk_drewN ?_ _ | refine blk_drew ?_ | refine blk_alloc ?_ _)); refine blk_put (cs := #[.int .i64 x126000_3, .string x126001_3, .int .i64 x126002_3]) ?_ 2 _ rfl; (with_reducible repeat (first | refine blk_drewN ?_ _ | refine blk_drew ?_ | refine blk_alloc ?_ _)); exact BK125.out) hg (Kd.R_away HO_5.out (fun _ hk => hk))); have n1_ := Aside0.mk (hb); have n2_ := Aside0.mk (ho); clear BK125; clear HB; clear HO_5; have BK125 := n0_; have HB := n1_; have HO131 := n2_; clear n0_ n1_ n2_; clear ho hb hg hat))
                                            go_roundg k3
                                            case measure => have := HK1.out; have := HJ5.out; have := HK3.out; omega
                                            case rel => exact ⟨(y129), (wrap64 (x6_1 + x8_3)), (by first | rfl | (simp; done) | (simp [*]; done)), H', ⟨by have := HK1.out; have := HJ5.out; have := HK3.out; omega⟩, ⟨by (with_reducible repeat (first | apply Kd.R_alloc | apply Kd.R_drewN | apply Kd.R_drew)); exact Kd.R_mono HO131.out (fun _ hk => trivial)⟩, ⟨by repeat (first | (with_reducible first | exact HB.out | apply below_alloc | apply pw_below_drewN | apply below_drew1 | refine below_set ?_ GE125.out) | exact HB.out)⟩⟩
                                          · rw [if_neg c41] at H
                                            exact absurd H (by simp)
                                      · rw [if_neg c38] at H
                                        have c38b0 : (x126000_3 == 6) = false := beq_eq_false_iff_ne.mpr c38
                                        have c38b1 : (x126000_3 != 6) = true := bne_iff_ne.mpr c38
                                        by_cases c44 : x5_1.length < 4398046511104
                                        · rw [if_pos c44] at H
                                          have LMc44 := Aside0.mk c44
                                          clear c44
                                          obtain ⟨y132, hy132⟩ : ∃ y_ : List (S37), y_ = (x5_1 ++ [(⟨x126000_3, x126001_3, x6_1⟩ : S37)]) := ⟨_, rfl⟩
                                          replace H : (majordomoref11_Lex.l0 k3 a0 y132 (wrap64 (x6_1 + x8_3))) = some (r1, r2, r3) := by first | (rw [hy132]; with_reducible exact H) | (have H2_ := (Option.bind_some _ _).symm.trans H; rw [hy132]; with_reducible exact H2_) | (have H2_ := (Option.bind_some _ _).symm.trans H; with_reducible exact H2_) | with_reducible exact H | (rw [hy132]; exact H) | exact H
                                          have Ny132 := Aside0.mk hy132
                                          clear hy132
                                          have H' := Aside0.mk H
                                          clear H
                                          have hcz45_0 : wr.cell? ⟨gb125, 0, none⟩ = some (.int .i64 x126000_3) := (blk_cell BK125.out 0).trans rfl
                                          have hcz45_1 : wr.cell? ⟨gb125, 1, none⟩ = some (.string x126001_3) := (blk_cell BK125.out 1).trans rfl
                                          have hcz45_2 : wr.cell? ⟨gb125, 2, none⟩ = some (.int .i64 x126002_3) := (blk_cell BK125.out 2).trans rfl
                                          have hfz45_0 := blk_frozen BK125.out 0
                                          have hfz45_1 := blk_frozen BK125.out 1
                                          have hfz45_2 := blk_frozen BK125.out 2
                                          go_wp2_with (first | ((with_reducible refine gate_builtin (b := .append) (xs := #[.tmp 91, .tmp 93]) rfl ?_); at_builtin; refine Kd.R_append k37 (w0 := w) w.heap.size rfl (.tmp 91) (.tmp 93) 29 37 (.agg #[(.int .i64 0), (.string ⟨#[]⟩), (.int .i64 0)]) 32 rfl Try.underlying29 info37 rfl (by decide) (by omega) u5 x5_1 (⟨x126000_3, x126001_3, x6_1⟩ : S37) [.int .i64 x126000_3, .string x126001_3, .int .i64 x6_1] (fun k_ => k_ ≠ gb125) (fun _ => False) rfl (by first | (go_simp; done) | (go_simp; rfl)) ?aP (fun _ hk => hk.elim) ?aF ?aO ?aB ?aS ?aL ?_; (case aP => exact k37_mkM _ _ _ (⟨x126000_3, x126001_3, x6_1⟩ : S37)); (case aB => exact (by repeat (first | (with_reducible first | exact HB.out | apply below_alloc | apply pw_below_drewN | apply below_drew1 | refine below_set ?_ GE125.out) | exact HB.out))); (case aF => exact (fun k_ hk => Kd.freshB (g := gb125) (o := .cells #[.int .i64 x126000_3, .string x126001_3, .int .i64 x6_1] 37 (0, 0)) (by (with_reducible repeat (first | refine blk_drewN ?_ _ | refine blk_drew ?_ | refine blk_alloc ?_ _)); refine blk_put (cs := #[.int .i64 x126000_3, .string x126001_3, .int .i64 x126002_3]) ?_ 2 _ rfl; (with_reducible repeat (first | refine blk_drewN ?_ _ | refine blk_drew ?_ | refine blk_alloc ?_ _)); exact BK125.out) k_ hk)); (case aO => exact (by (with_reducible repeat (first | apply Kd.R_alloc | apply Kd.R_drewN | apply Kd.R_drew)); exact Kd.R_mono (Kd.R_far (p := ⟨gb125, 2, none⟩) (Kd.R_mono HO_5.out (fun k_ hk => (⟨hk, hk⟩ : _ ∧ k_ ≠ gb125))) (fun _ hk => hk.2) (.int .i64 x6_1)) (fun _ hk => hk.1))); (case aS => exact (below_size (by repeat (first | (with_reducible first | exact HB.out | apply below_alloc | apply pw_below_drewN | apply below_drew1 | refine below_set ?_ GE125.out) | exact HB.out)))); (case aL => have := LMc44.out; omega); intro v133 w46 ho hb hg hat; rw [← Ny132.out] at ho; have n0_ := Aside0.mk (blk_grown (g := gb125) (o := .cells #[.int .i64 x126000_3, .string x126001_3, .int .i64 x6_1] 37 (0, 0)) (by (with_reducible repeat (first | refine blk_drewN ?_ _ | refine blk_drew ?_ | refine blk_alloc ?_ _)); refine blk_put (cs := #[.int .i64 x126000_3, .string x126001_3, .int .i64 x126002_3]) ?_ 2 _ rfl; (with_reducible repeat (first | refine blk_drewN ?_ _ | refine blk_drew ?_ | refine blk_alloc ?_ _)); exact BK125.out) hg (Kd.R_away HO_5.out (fun _ hk => hk))); have n1_ := Aside0.mk (hb); have n2_ := Aside0.mk (ho); clear BK125; clear HB; clear HO_5; have BK125 := n0_; have HB := n1_; have HO134 := n2_; clear n0_ n1_ n2_; clear ho hb hg hat))
                                          go_roundg k3
                                          case measure => have := HK1.out; have := HJ5.out; have := HK3.out; omega
                                          case rel => exact ⟨(y132), (wrap64 (x6_1 + x8_3)), (by first | rfl | (simp; done) | (simp [*]; done)), H', ⟨by have := HK1.out; have := HJ5.out; have := HK3.out; omega⟩, ⟨by (with_reducible repeat (first | apply Kd.R_alloc | apply Kd.R_drewN | apply Kd.R_drew)); exact Kd.R_mono HO134.out (fun _ hk => trivial)⟩, ⟨by repeat (first | (with_reducible first | exact HB.out | apply below_alloc | apply pw_below_drewN | apply below_drew1 | refine below_set ?_ GE125.out) | exact HB.out)⟩⟩
                                        · rw [if_neg c44] at H
                                          exact absurd H (by simp)
                                · rw [if_neg c27] at H
                                  have c27b0 : decide (0 < x8_3) = false := decide_eq_false c27
                                  clear c27
                                  by_cases c47 : x8_3 = 0
                                  · rw [if_pos c47] at H
                                    have c47b0 : (x8_3 == 0) = true := beq_iff_eq.mpr c47
                                    have c47b1 : (x8_3 != 0) = false := bne_eq_false_iff_eq.mpr c47
                                    clear c47
                                    simp only [Option.some.injEq, Prod.mk.injEq] at H
                                    obtain ⟨rfl, rfl, rfl⟩ := H
                                    go_wp2
                                    go_ret3
                                    exact ⟨_, by first | rfl | (simp [errW_none, errW_some] <;> rfl) | (simp [*, errW_none, errW_some] <;> rfl), by first | exact Kd.R_nil _ _ _ _ _ | exact Kd.N_nil _ _ _ _ _ | exact Kd.V_nil _ _ _ _ _ | exact Kd.Q_nil _ _ _ _ _ | exact Kd.S_nil _ _ _ _ _, by repeat (first | (with_reducible first | exact HB.out | apply below_alloc | apply pw_below_drewN | apply below_drew1 | refine below_set ?_ GE125.out) | exact HB.out)⟩
                                  · rw [if_neg c47] at H
                                    have c47b0 : (x8_3 == 0) = false := beq_eq_false_iff_ne.mpr c47
                                    have c47b1 : (x8_3 != 0) = true := bne_iff_ne.mpr c47
                                    by_cases c48 : x126000_3 = 6
                                    · rw [if_pos c48] at H
                                      have c48b0 : (x126000_3 == 6) = true := beq_iff_eq.mpr c48
                                      have c48b1 : (x126000_3 != 6) = false := bne_eq_false_iff_eq.mpr c48
                                      clear c48
                                      by_cases c49 : x8_3 > 9
                                      · rw [if_pos c49] at H
                                        have c49b0 : decide (9 < x8_3) = true := decide_eq_true c49
                                        clear c49
                                        simp only [Option.some.injEq, Prod.mk.injEq] at H
                                        obtain ⟨rfl, rfl, rfl⟩ := H
                                        have hcz50_0 : wr.cell? ⟨gb125, 0, none⟩ = some (.int .i64 x126000_3) := (blk_cell BK125.out 0).trans rfl
                                        have hcz50_1 : wr.cell? ⟨gb125, 1, none⟩ = some (.string x126001_3) := (blk_cell BK125.out 1).trans rfl
                                        have hcz50_2 : wr.cell? ⟨gb125, 2, none⟩ = some (.int .i64 x126002_3) := (blk_cell BK125.out 2).trans rfl
                                        have hfz50_0 := blk_frozen BK125.out 0
                                        have hfz50_1 := blk_frozen BK125.out 1
                                        have hfz50_2 := blk_frozen BK125.out 2
                                        go_wp2
                                        go_ret3
                                        exact ⟨_, by first | rfl | (simp [errW_none, errW_some] <;> rfl) | (simp [*, errW_none, errW_some] <;> rfl), by first | exact Kd.R_nil _ _ _ _ _ | exact Kd.N_nil _ _ _ _ _ | exact Kd.V_nil _ _ _ _ _ | exact Kd.Q_nil _ _ _ _ _ | exact Kd.S_nil _ _ _ _ _, by repeat (first | (with_reducible first | exact HB.out | apply below_alloc | apply pw_below_drewN | apply below_drew1 | refine below_set ?_ GE125.out) | exact HB.out)⟩
                                      · rw [if_neg c49] at H
                                        have c49b0 : decide (9 < x8_3) = false := decide_eq_false c49
                                        clear c49
                                        by_cases c51 : x5_1.length < 4398046511104
                                        · rw [if_pos c51] at H
                                          have LMc51 := Aside0.mk c51
                                          clear c51
                                          obtain ⟨y135, hy135⟩ : ∃ y_ : List (S37), y_ = (x5_1 ++ [(⟨x126000_3, x126001_3, x6_1⟩ : S37)]) := ⟨_, rfl⟩
                                          replace H : (majordomoref11_Lex.l0 k3 a0 y135 (wrap64 (x6_1 + x8_3))) = some (r1, r2, r3) := by first | (rw [hy135]; with_reducible exact H) | (have H2_ := (Option.bind_some _ _).symm.trans H; rw [hy135]; with_reducible exact H2_) | (have H2_ := (Option.bind_some _ _).symm.trans H; with_reducible exact H2_) | with_reducible exact H | (rw [hy135]; exact H) | exact H
                                          have Ny135 := Aside0.mk hy135
                                          clear hy135
                                          have H' := Aside0.mk H
                                          clear H
                                          have hcz52_0 : wr.cell? ⟨gb125, 0, none⟩ = some (.int .i64 x126000_3) := (blk_cell BK125.out 0).trans rfl
                                          have hcz52_1 : wr.cell? ⟨gb125, 1, none⟩ = some (.string x126001_3) := (blk_cell BK125.out 1).trans rfl
                                          have hcz52_2 : wr.cell? ⟨gb125, 2, none⟩ = some (.int .i64 x126002_3) := (blk_cell BK125.out 2).trans rfl
                                          have hfz52_0 := blk_frozen BK125.out 0
                                          have hfz52_1 := blk_frozen BK125.out 1
                                          have hfz52_2 := blk_frozen BK125.out 2
                                          go_wp2_with (first | ((with_reducible refine gate_builtin (b := .append) (xs := #[.tmp 91, .tmp 93]) rfl ?_); at_builtin; refine Kd.R_append k37 (w0 := w) w.heap.size rfl (.tmp 91) (.tmp 93) 29 37 (.agg #[(.int .i64 0), (.string ⟨#[]⟩), (.int .i64 0)]) 32 rfl Try.underlying29 info37 rfl (by decide) (by omega) u5 x5_1 (⟨x126000_3, x126001_3, x6_1⟩ : S37) [.int .i64 x126000_3, .string x126001_3, .int .i64 x6_1] (fun k_ => k_ ≠ gb125) (fun _ => False) rfl (by first | (go_simp; done) | (go_simp; rfl)) ?aP (fun _ hk => hk.elim) ?aF ?aO ?aB ?aS ?aL ?_; (case aP => exact k37_mkM _ _ _ (⟨x126000_3, x126001_3, x6_1⟩ : S37)); (case aB => exact (by repeat (first | (with_reducible first | exact HB.out | apply below_alloc | apply pw_below_drewN | apply below_drew1 | refine below_set ?_ GE125.out) | exact HB.out))); (case aF => exact (fun k_ hk => Kd.freshB (g := gb125) (o := .cells #[.int .i64 x126000_3, .string x126001_3, .int .i64 x6_1] 37 (0, 0)) (by (with_reducible repeat (first | refine blk_drewN ?_ _ | refine blk_drew ?_ | refine blk_alloc ?_ _)); refine blk_put (cs := #[.int .i64 x126000_3, .string x126001_3, .int .i64 x126002_3]) ?_ 2 _ rfl; (with_reducible repeat (first | refine blk_drewN ?_ _ | refine blk_drew ?_ | refine blk_alloc ?_ _)); exact BK125.out) k_ hk)); (case aO => exact (by (with_reducible repeat (first | apply Kd.R_alloc | apply Kd.R_drewN | apply Kd.R_drew)); exact Kd.R_mono (Kd.R_far (p := ⟨gb125, 2, none⟩) (Kd.R_mono HO_5.out (fun k_ hk => (⟨hk, hk⟩ : _ ∧ k_ ≠ gb125))) (fun _ hk => hk.2) (.int .i64 x6_1)) (fun _ hk => hk.1))); (case aS => exact (below_size (by repeat (first | (with_reducible first | exact HB.out | apply below_alloc | apply pw_below_drewN | apply below_drew1 | refine below_set ?_ GE125.out) | exact HB.out)))); (case aL => have := LMc51.out; omega); intro v136 w53 ho hb hg hat; rw [← Ny135.out] at ho; have n0_ := Aside0.mk (blk_grown (g := gb125) (o := .cells #[.int .i64 x126000_3, .string x126001_3, .int .i64 x6_1] 37 (0, 0)) (by (with_reducible repeat (first | refine blk_drewN ?_ _ | refine blk_drew ?_ | refine blk_alloc ?_ _)); refine blk_put (cs := #[.int .i64 x126000_3, .string x126001_3, .int .i64 x126002_3]) ?_ 2 _ rfl; (with_reducible repeat (first | refine blk_drewN ?_ _ | refine blk_drew ?_ | refine blk_alloc ?_ _)); exact BK125.out) hg (Kd.R_away HO_5.out (fun _ hk => hk))); have n1_ := Aside0.mk (hb); have n2_ := Aside0.mk (ho); clear BK125; clear HB; clear HO_5; have BK125 := n0_; have HB := n1_; have HO137 := n2_; clear n0_ n1_ n2_; clear ho hb hg hat))
                                          go_roundg k3
                                          case measure => have := HK1.out; have := HJ5.out; have := HK3.out; omega
                                          case rel => exact ⟨(y135), (wrap64 (x6_1 + x8_3)), (by first | rfl | (simp; done) | (simp [*]; done)), H', ⟨by have := HK1.out; have := HJ5.out; have := HK3.out; omega⟩, ⟨by (with_reducible repeat (first | apply Kd.R_alloc | apply Kd.R_drewN | apply Kd.R_drew)); exact Kd.R_mono HO137.out (fun _ hk => trivial)⟩, ⟨by repeat (first | (with_reducible first | exact HB.out | apply below_alloc | apply pw_below_drewN | apply below_drew1 | refine below_set ?_ GE125.out) | exact HB.out)⟩⟩
                                        · rw [if_neg c51] at H
                                          exact absurd H (by simp)
                                    · rw [if_neg c48] at H
                                      have c48b0 : (x126000_3 == 6) = false := beq_eq_false_iff_ne.mpr c48
                                      have c48b1 : (x126000_3 != 6) = true := bne_iff_ne.mpr c48
                                      by_cases c54 : x5_1.length < 4398046511104
                                      · rw [if_pos c54] at H
                                        have LMc54 := Aside0.mk c54
                                        clear c54
                                        obtain ⟨y138, hy138⟩ : ∃ y_ : List (S37), y_ = (x5_1 ++ [(⟨x126000_3, x126001_3, x6_1⟩ : S37)]) := ⟨_, rfl⟩
                                        replace H : (majordomoref11_Lex.l0 k3 a0 y138 (wrap64 (x6_1 + x8_3))) = some (r1, r2, r3) := by first | (rw [hy138]; with_reducible exact H) | (have H2_ := (Option.bind_some _ _).symm.trans H; rw [hy138]; with_reducible exact H2_) | (have H2_ := (Option.bind_some _ _).symm.trans H; with_reducible exact H2_) | with_reducible exact H | (rw [hy138]; exact H) | exact H
                                        have Ny138 := Aside0.mk hy138
                                        clear hy138
                                        have H' := Aside0.mk H
                                        clear H
                                        have hcz55_0 : wr.cell? ⟨gb125, 0, none⟩ = some (.int .i64 x126000_3) := (blk_cell BK125.out 0).trans rfl
                                        have hcz55_1 : wr.cell? ⟨gb125, 1, none⟩ = some (.string x126001_3) := (blk_cell BK125.out 1).trans rfl
                                        have hcz55_2 : wr.cell? ⟨gb125, 2, none⟩ = some (.int .i64 x126002_3) := (blk_cell BK125.out 2).trans rfl
                                        have hfz55_0 := blk_frozen BK125.out 0
                                        have hfz55_1 := blk_frozen BK125.out 1
                                        have hfz55_2 := blk_frozen BK125.out 2
                                        go_wp2_with (first | ((with_reducible refine gate_builtin (b := .append) (xs := #[.tmp 91, .tmp 93]) rfl ?_); at_builtin; refine Kd.R_append k37 (w0 := w) w.heap.size rfl (.tmp 91) (.tmp 93) 29 37 (.agg #[(.int .i64 0), (.string ⟨#[]⟩), (.int .i64 0)]) 32 rfl Try.underlying29 info37 rfl (by decide) (by omega) u5 x5_1 (⟨x126000_3, x126001_3, x6_1⟩ : S37) [.int .i64 x126000_3, .string x126001_3, .int .i64 x6_1] (fun k_ => k_ ≠ gb125) (fun _ => False) rfl (by first | (go_simp; done) | (go_simp; rfl)) ?aP (fun _ hk => hk.elim) ?aF ?aO ?aB ?aS ?aL ?_; (case aP => exact k37_mkM _ _ _ (⟨x126000_3, x126001_3, x6_1⟩ : S37)); (case aB => exact (by repeat (first | (with_reducible first | exact HB.out | apply below_alloc | apply pw_below_drewN | apply below_drew1 | refine below_set ?_ GE125.out) | exact HB.out))); (case aF => exact (fun k_ hk => Kd.freshB (g := gb125) (o := .cells #[.int .i64 x126000_3, .string x126001_3, .int .i64 x6_1] 37 (0, 0)) (by (with_reducible repeat (first | refine blk_drewN ?_ _ | refine blk_drew ?_ | refine blk_alloc ?_ _)); refine blk_put (cs := #[.int .i64 x126000_3, .string x126001_3, .int .i64 x126002_3]) ?_ 2 _ rfl; (with_reducible repeat (first | refine blk_drewN ?_ _ | refine blk_drew ?_ | refine blk_alloc ?_ _)); exact BK125.out) k_ hk)); (case aO => exact (by (with_reducible repeat (first | apply Kd.R_alloc | apply Kd.R_drewN | apply Kd.R_drew)); exact Kd.R_mono (Kd.R_far (p := ⟨gb125, 2, none⟩) (Kd.R_mono HO_5.out (fun k_ hk => (⟨hk, hk⟩ : _ ∧ k_ ≠ gb125))) (fun _ hk => hk.2) (.int .i64 x6_1)) (fun _ hk => hk.1))); (case aS => exact (below_size (by repeat (first | (with_reducible first | exact HB.out | apply below_alloc | apply pw_below_drewN | apply below_drew1 | refine below_set ?_ GE125.out) | exact HB.out)))); (case aL => have := LMc54.out; omega); intro v139 w56 ho hb hg hat; rw [← Ny138.out] at ho; have n0_ := Aside0.mk (blk_grown (g := gb125) (o := .cells #[.int .i64 x126000_3, .string x126001_3, .int .i64 x6_1] 37 (0, 0)) (by (with_reducible repeat (first | refine blk_drewN ?_ _ | refine blk_drew ?_ | refine blk_alloc ?_ _)); refine blk_put (cs := #[.int .i64 x126000_3, .string x126001_3, .int .i64 x126002_3]) ?_ 2 _ rfl; (with_reducible repeat (first | refine blk_drewN ?_ _ | refine blk_drew ?_ | refine blk_alloc ?_ _)); exact BK125.out) hg (Kd.R_away HO_5.out (fun _ hk => hk))); have n1_ := Aside0.mk (hb); have n2_ := Aside0.mk (ho); clear BK125; clear HB; clear HO_5; have BK125 := n0_; have HB := n1_; have HO140 := n2_; clear n0_ n1_ n2_; clear ho hb hg hat))
                                        go_roundg k3
                                        case measure => have := HK1.out; have := HJ5.out; have := HK3.out; omega
                                        case rel => exact ⟨(y138), (wrap64 (x6_1 + x8_3)), (by first | rfl | (simp; done) | (simp [*]; done)), H', ⟨by have := HK1.out; have := HJ5.out; have := HK3.out; omega⟩, ⟨by (with_reducible repeat (first | apply Kd.R_alloc | apply Kd.R_drewN | apply Kd.R_drew)); exact Kd.R_mono HO140.out (fun _ hk => trivial)⟩, ⟨by repeat (first | (with_reducible first | exact HB.out | apply below_alloc | apply pw_below_drewN | apply below_drew1 | refine below_set ?_ GE125.out) | exact HB.out)⟩⟩
                                      · rw [if_neg c54] at H
                                        exact absurd H (by simp)
                          · rw [if_neg c21] at H
                            exact absurd H (by simp)
                        · rw [if_neg c20] at H
                          exact absurd H (by simp)
                      · rw [if_neg c17] at H
                        exact absurd H (by simp)
                    · rw [if_neg c16] at H
                      exact absurd H (by simp)
          · rw [if_neg c4] at H
            exact absurd H (by simp)
        · rw [if_neg c3] at H
          have c3b0 : decide (x6_1 < (a0.size : Int)) = false := decide_eq_false c3
          clear c3
          simp only [Option.some.injEq, Prod.mk.injEq] at H
          obtain ⟨rfl, rfl, rfl⟩ := H
          go_wp2
          go_ret3
          exact ⟨_, by first | rfl | (simp [errW_none, errW_some] <;> rfl) | (simp [*, errW_none, errW_some] <;> rfl), by (with_reducible repeat (first | apply Kd.R_alloc | apply Kd.R_drewN | apply Kd.R_drew)); exact HO_5.out, by repeat (first | (with_reducible first | exact HB.out | apply below_alloc | apply pw_below_drewN | apply below_drew1) | exact HB.out)⟩

/-! ### majordomolaw12_words: function 8 -/
def majordomolaw12_words.f (k : Nat) (a0 : ByteArray) : Option ((List (S37))) := (majordomoref11_Lex.f k a0).bind fun bt141 => (some bt141.1)
theorem majordomolaw12_words.mono : ∀ a0 k, LeO (majordomolaw12_words.f k a0) (majordomolaw12_words.f (k + 1) a0) := by
  intro a0 k
  unfold majordomolaw12_words.f
  repeat' first
      | (with_reducible exact majordomoref11_Lex.mono _ _)
      | (with_reducible exact LeO.refl _)
      | (with_reducible exact LeO.none _)
      | (with_reducible refine LeO.ite ?_ ?_)
      | (with_reducible refine LeO.bind ?_ (fun _ => ?_))
      | exact majordomoref11_Lex.mono _ _
      | exact LeO.none _
      | refine LeO.ite ?_ ?_
      | refine LeO.bind ?_ (fun _ => ?_)
set_option maxHeartbeats 8000000 in
set_option maxRecDepth 100000 in
theorem majordomolaw12_words.calls (k : Nat) (a0 : ByteArray) (r : List (S37)) (w : World) (h : majordomolaw12_words.f k a0 = some r) :
    Calls Try.prog 8 #[.string a0] w fun e w' => ∃ v0_ : Value, e = .returned (v0_) ∧ Kd.R k37 37 w' w.heap.size (fun _ => True) v0_ r ∧ Below w.heap.size w w' := by
  have HB := Aside0.mk (Below.refl w.heap.size w)
  have H : ((majordomoref11_Lex.f k a0).bind fun bt141 => (some bt141.1)) = some r := h
  clear h
  replace H := Option.bind_eq_some_iff.mp H
  obtain ⟨⟨t141, t142, t143⟩, A20, H⟩ := H
  replace H : (some t141) = some r := H
  have A2 := Aside0.mk A20
  clear A20
  obtain rfl := Option.some.inj H
  go_enter Try.func8, Try.ntmps8
  go_wp2_with (first | ((with_reducible refine gate_callee (f := 11) rfl ?_); refine goesL_ (some 8) rfl rfl Try.func11 (by kernel_rfl) rfl #[.string a0] rfl (by (try simp only [List.map_toArray, List.map_cons, List.map_nil]); first | done | rfl | (simp only [List.length_drop, List.length_take]; rfl)) ?_; (with_reducible refine (majordomoref11_Lex.calls k a0 t141 t142 t143 _ A2.out).mono ?_); rintro e w3 ⟨v144, rfl, ho0, hb⟩; refine ⟨_, rfl, ?_⟩; have n0_ := Aside0.mk (Kd.R_lower ho0 (below_size (by repeat (first | (with_reducible first | exact HB.out | apply below_alloc | apply pw_below_drewN | apply below_drew1) | exact HB.out)))); have n1_ := Aside0.mk (below_step (by repeat (first | (with_reducible first | exact HB.out | apply below_alloc | apply pw_below_drewN | apply below_drew1) | exact HB.out)) hb); clear HB; have HO145 := n0_; have HB := n1_; clear n0_ n1_; (try clear hb); (try clear hb2); (try clear hk); (try clear hi); (try clear ho0)))
  go_ret
  exact ⟨_, by first | rfl | (simp [errW_none, errW_some] <;> rfl) | (simp [*, errW_none, errW_some] <;> rfl), by (with_reducible repeat (first | apply Kd.R_alloc | apply Kd.R_drewN | apply Kd.R_drew)); exact HO145.out, by repeat (first | (with_reducible first | exact HB.out | apply below_alloc | apply pw_below_drewN | apply below_drew1) | exact HB.out)⟩

end Go.Proofs.Ytoggcdldoinbnaa.PL
