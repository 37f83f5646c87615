-- printed by wip/printx (a program of this session's, over the kit's print)
import Derived.Test.YtjjhopcbipedaaaDoorPXx0
import Derived.Test.YtjjhopcbipedaaaDoorPXx1
import Derived.Test.YtjjhopcbipedaaaDoorPXx10
import Derived.Test.YtjjhopcbipedaaaDoorPXx12
namespace Go.Proofs.YtjjhopcbipedaaaDoor.PX
open Go.RowKit Go.Proofs.YtjjhopcbipedaaaDoorW.PrintWords Go.Proofs.YtjjhopcbipedaaaDoorW.PrintLast Go.Proofs.YtjjhopcbipedaaaDoorW.PrintMore
attribute [local go_sem] max2_int min2_int max_two min_two max_three min_three max_four min_four Go.Proofs.YtjjhopcbipedaaaDoor.PxMore.isSome_setCell   -- for this text's walks alone
set_option linter.unusedVariables false
set_option linter.unusedSimpArgs false

attribute [local go_sem high] eqA29
/-! ### majordomoref11_Lex: function 12 -/
mutual
def majordomoref11_Lex.l0 : Nat → ByteArray → List (S29) → Int → Option ((List (S29)) × Int × Int)
  | 0, _, _, _ => none
  | k + 1, x0, x5, x6 => if x6 < (x0.size : Int) then (if 0 ≤ x6 then (if (bt x0 x6) = 9 then (majordomoref11_Lex.j1 k x0 x5 x6 (bt x0 x6) true) else (if (bt x0 x6) = 10 then (majordomoref11_Lex.j1 k x0 x5 x6 (bt x0 x6) true) else (if (bt x0 x6) = 13 then (majordomoref11_Lex.j1 k x0 x5 x6 (bt x0 x6) true) else (majordomoref11_Lex.j1 k x0 x5 x6 (bt x0 x6) ((bt x0 x6) == 32))))) else (none)) else (some (x5, 0, 0))
def majordomoref11_Lex.j1 : Nat → ByteArray → List (S29) → Int → Int → Bool → Option ((List (S29)) × Int × Int)
  | 0, _, _, _, _, _ => none
  | k + 1, x0, x5, x6, x7, x33 => if x33 = true then (majordomoref11_Lex.l0 k x0 x5 (wrap64 (x6 + 1))) else (if x7 = 35 then (majordomoref11_Lex.l1 k x0 x5 x6) else (if 0 ≤ x6 then (if x6 ≤ (x0.size : Int) then ((majordomoref11_reach.f k (x0.extract (x6 : Int).toNat x0.size)).bind fun t243 => (if x6 ≤ (wrap64 (x6 + t243)) then (if (wrap64 (x6 + t243)) ≤ (x0.size : Int) then ((majordomoref11_word.f k (x0.extract (x6 : Int).toNat ((wrap64 (x6 + t243)) : Int).toNat)).bind fun bt244 => (majordomoref11_Lex.l2 k x0 x5 x6 t243 bt244.1 bt244.2.1 bt244.2.2)) else (none)) else (none))) else (none)) else (none)))
def majordomoref11_Lex.l1 : Nat → ByteArray → List (S29) → Int → Option ((List (S29)) × Int × Int)
  | 0, _, _, _ => none
  | k + 1, x0, x5, x6 => if x6 < (x0.size : Int) then (if 0 ≤ x6 then (if (bt x0 x6) = 10 then (majordomoref11_Lex.l0 k x0 x5 x6) else (majordomoref11_Lex.l1 k x0 x5 (wrap64 (x6 + 1)))) else (none)) else (majordomoref11_Lex.l0 k x0 x5 x6)
def majordomoref11_Lex.l2 : Nat → ByteArray → List (S29) → Int → Int → Int → ByteArray → Int → Option ((List (S29)) × Int × Int)
  | 0, _, _, _, _, _, _, _ => none
  | k + 1, x0, x5, x6, x8, x248000, x248001, x248002 => if x8 > 0 then (if x248000 = 0 then (if 0 ≤ x6 then (if x6 ≤ (wrap64 (x6 + (wrap64 (x8 - 1)))) then (if (wrap64 (x6 + (wrap64 (x8 - 1)))) ≤ (x0.size : Int) then ((majordomoref11_word.f k (x0.extract (x6 : Int).toNat ((wrap64 (x6 + (wrap64 (x8 - 1)))) : Int).toNat)).bind fun bt248 => (majordomoref11_Lex.l2 k x0 x5 x6 (wrap64 (x8 - 1)) bt248.1 bt248.2.1 bt248.2.2)) else (none)) else (none)) else (none)) else (if x8 = 0 then (some (([] : List (S29)), x6, 110)) else (if x248000 = 6 then (if x8 > 9 then (some (([] : List (S29)), x6, 110)) else (if x5.length < 4398046511104 then (majordomoref11_Lex.l0 k x0 (x5 ++ [(⟨x248000, x248001, x6⟩ : S29)]) (wrap64 (x6 + x8))) else (none))) else (if x5.length < 4398046511104 then (majordomoref11_Lex.l0 k x0 (x5 ++ [(⟨x248000, x248001, x6⟩ : S29)]) (wrap64 (x6 + x8))) else (none))))) else (if x8 = 0 then (some (([] : List (S29)), x6, 110)) else (if x248000 = 6 then (if x8 > 9 then (some (([] : List (S29)), x6, 110)) else (if x5.length < 4398046511104 then (majordomoref11_Lex.l0 k x0 (x5 ++ [(⟨x248000, x248001, x6⟩ : S29)]) (wrap64 (x6 + x8))) else (none))) else (if x5.length < 4398046511104 then (majordomoref11_Lex.l0 k x0 (x5 ++ [(⟨x248000, x248001, x6⟩ : S29)]) (wrap64 (x6 + x8))) else (none))))
end
def majordomoref11_Lex.f (k : Nat) (a0 : ByteArray) : Option ((List (S29)) × Int × Int) := if (a0.size : Int) > 65536 then (some (([] : List (S29)), 0, 5)) else (majordomoref11_Lex.l0 k a0 ([] : List (S29)) 0)
theorem majordomoref11_Lex.mono_l : ∀ k, (∀ y0 y1 y2, LeO (majordomoref11_Lex.l0 k y0 y1 y2) (majordomoref11_Lex.l0 (k + 1) y0 y1 y2)) ∧ (∀ y0 y1 y2 y3 y4, LeO (majordomoref11_Lex.j1 k y0 y1 y2 y3 y4) (majordomoref11_Lex.j1 (k + 1) y0 y1 y2 y3 y4)) ∧ (∀ y0 y1 y2, LeO (majordomoref11_Lex.l1 k y0 y1 y2) (majordomoref11_Lex.l1 (k + 1) y0 y1 y2)) ∧ (∀ y0 y1 y2 y3 y4 y5 y6, LeO (majordomoref11_Lex.l2 k y0 y1 y2 y3 y4 y5 y6) (majordomoref11_Lex.l2 (k + 1) y0 y1 y2 y3 y4 y5 y6))
  | 0 => ⟨fun _ _ _ r h => by simp [majordomoref11_Lex.l0] at h, fun _ _ _ _ _ r h => by simp [majordomoref11_Lex.j1] at h, fun _ _ _ r h => by simp [majordomoref11_Lex.l1] at h, fun _ _ _ _ _ _ _ r h => by simp [majordomoref11_Lex.l2] at h⟩
  | k + 1 => by
    obtain ⟨ih0, ih1, ih2, ih3⟩ := majordomoref11_Lex.mono_l k
    refine ⟨?_, ?_, ?_, ?_⟩
    · intro y0 y1 y2
      unfold majordomoref11_Lex.l0
      repeat' first
      | (with_reducible exact ih0 _ _ _)
      | (with_reducible exact ih1 _ _ _ _ _)
      | (with_reducible exact ih2 _ _ _)
      | (with_reducible exact ih3 _ _ _ _ _ _ _)
      | (with_reducible exact majordomoref11_reach.mono _ _)
      | (with_reducible exact majordomoref11_word.mono _ _)
      | (with_reducible exact LeO.refl _)
      | (with_reducible exact LeO.none _)
      | (with_reducible refine LeO.ite ?_ ?_)
      | (with_reducible refine LeO.bind ?_ (fun _ => ?_))
      | exact ih0 _ _ _
      | exact ih1 _ _ _ _ _
      | exact ih2 _ _ _
      | exact ih3 _ _ _ _ _ _ _
      | exact majordomoref11_reach.mono _ _
      | exact majordomoref11_word.mono _ _
      | exact LeO.none _
      | refine LeO.ite ?_ ?_
      | refine LeO.bind ?_ (fun _ => ?_)
    · intro y0 y1 y2 y3 y4
      unfold majordomoref11_Lex.j1
      repeat' first
      | (with_reducible exact ih0 _ _ _)
      | (with_reducible exact ih1 _ _ _ _ _)
      | (with_reducible exact ih2 _ _ _)
      | (with_reducible exact ih3 _ _ _ _ _ _ _)
      | (with_reducible exact majordomoref11_reach.mono _ _)
      | (with_reducible exact majordomoref11_word.mono _ _)
      | (with_reducible exact LeO.refl _)
      | (with_reducible exact LeO.none _)
      | (with_reducible refine LeO.ite ?_ ?_)
      | (with_reducible refine LeO.bind ?_ (fun _ => ?_))
      | exact ih0 _ _ _
      | exact ih1 _ _ _ _ _
      | exact ih2 _ _ _
      | exact ih3 _ _ _ _ _ _ _
      | exact majordomoref11_reach.mono _ _
      | exact majordomoref11_word.mono _ _
      | exact LeO.none _
      | refine LeO.ite ?_ ?_
      | refine LeO.bind ?_ (fun _ => ?_)
    · intro y0 y1 y2
      unfold majordomoref11_Lex.l1
      repeat' first
      | (with_reducible exact ih0 _ _ _)
      | (with_reducible exact ih1 _ _ _ _ _)
      | (with_reducible exact ih2 _ _ _)
      | (with_reducible exact ih3 _ _ _ _ _ _ _)
      | (with_reducible exact majordomoref11_reach.mono _ _)
      | (with_reducible exact majordomoref11_word.mono _ _)
      | (with_reducible exact LeO.refl _)
      | (with_reducible exact LeO.none _)
      | (with_reducible refine LeO.ite ?_ ?_)
      | (with_reducible refine LeO.bind ?_ (fun _ => ?_))
      | exact ih0 _ _ _
      | exact ih1 _ _ _ _ _
      | exact ih2 _ _ _
      | exact ih3 _ _ _ _ _ _ _
      | exact majordomoref11_reach.mono _ _
      | exact majordomoref11_word.mono _ _
      | exact LeO.none _
      | refine LeO.ite ?_ ?_
      | refine LeO.bind ?_ (fun _ => ?_)
    · intro y0 y1 y2 y3 y4 y5 y6
      unfold majordomoref11_Lex.l2
      repeat' first
      | (with_reducible exact ih0 _ _ _)
      | (with_reducible exact ih1 _ _ _ _ _)
      | (with_reducible exact ih2 _ _ _)
      | (with_reducible exact ih3 _ _ _ _ _ _ _)
      | (with_reducible exact majordomoref11_reach.mono _ _)
      | (with_reducible exact majordomoref11_word.mono _ _)
      | (with_reducible exact LeO.refl _)
      | (with_reducible exact LeO.none _)
      | (with_reducible refine LeO.ite ?_ ?_)
      | (with_reducible refine LeO.bind ?_ (fun _ => ?_))
      | exact ih0 _ _ _
      | exact ih1 _ _ _ _ _
      | exact ih2 _ _ _
      | exact ih3 _ _ _ _ _ _ _
      | exact majordomoref11_reach.mono _ _
      | exact majordomoref11_word.mono _ _
      | exact LeO.none _
      | refine LeO.ite ?_ ?_
      | refine LeO.bind ?_ (fun _ => ?_)
theorem majordomoref11_Lex.mono : ∀ a0 k, LeO (majordomoref11_Lex.f k a0) (majordomoref11_Lex.f (k + 1) a0) := by
  intro a0 k
  obtain ⟨ih0, ih1, ih2, ih3⟩ := majordomoref11_Lex.mono_l k
  unfold majordomoref11_Lex.f
  repeat' first
      | (with_reducible exact ih0 _ _ _)
      | (with_reducible exact ih1 _ _ _ _ _)
      | (with_reducible exact ih2 _ _ _)
      | (with_reducible exact ih3 _ _ _ _ _ _ _)
      | (with_reducible exact majordomoref11_reach.mono _ _)
      | (with_reducible exact majordomoref11_word.mono _ _)
      | (with_reducible exact LeO.refl _)
      | (with_reducible exact LeO.none _)
      | (with_reducible refine LeO.ite ?_ ?_)
      | (with_reducible refine LeO.bind ?_ (fun _ => ?_))
      | exact ih0 _ _ _
      | exact ih1 _ _ _ _ _
      | exact ih2 _ _ _
      | exact ih3 _ _ _ _ _ _ _
      | exact majordomoref11_reach.mono _ _
      | exact majordomoref11_word.mono _ _
      | exact LeO.none _
      | refine LeO.ite ?_ ?_
      | refine LeO.bind ?_ (fun _ => ?_)
set_option maxHeartbeats 8000000 in
set_option maxRecDepth 100000 in
theorem majordomoref11_Lex.calls (k : Nat) (a0 : ByteArray) (r1 : List (S29)) (r2 : Int) (r3 : Int) (w : World) (h : majordomoref11_Lex.f k a0 = some (r1, r2, r3)) :
    Calls Tryd.prog 12 #[.string a0] w fun e w' => ∃ v0_ : Value, e = .returned (.tuple #[v0_, .int .i64 r2, .int .i64 r3]) ∧ Kd.R k29 29 w' w.heap.size (fun _ => True) v0_ r1 ∧ Below w.heap.size w w' := by
  have hu29 := Tryd.underlying29
  have HB := Aside0.mk (Below.refl w.heap.size w)
  have H : (if (a0.size : Int) > 65536 then (some (([] : List (S29)), 0, 5)) else (majordomoref11_Lex.l0 k a0 ([] : List (S29)) 0)) = some (r1, r2, r3) := h
  clear h
  by_cases c2 : (a0.size : Int) > 65536
  · rw [if_pos c2] at H
    have c2b0 : decide (65536 < (a0.size : Int)) = true := decide_eq_true c2
    have c2b1 : decide (65536 < a0.size) = true := decide_eq_true (by omega)
    clear c2
    simp only [Option.some.injEq, Prod.mk.injEq] at H
    obtain ⟨rfl, rfl, rfl⟩ := H
    go_enter Tryd.func12, Tryd.ntmps12
    go_wp2
    go_ret3
    exact ⟨_, by first | rfl | (simp [errW_none, errW_some] <;> rfl) | (simp [*, errW_none, errW_some] <;> rfl), by first | exact Kd.R_nil _ _ _ _ _ | exact Kd.N_nil _ _ _ _ _ | exact Kd.V_nil _ _ _ _ _ | exact Kd.Q_nil _ _ _ _ _ | exact Kd.S_nil _ _ _ _ _, by repeat (first | (with_reducible first | exact HB.out | apply below_alloc | apply pw_below_drewN | apply below_drew1) | exact HB.out)⟩
  · rw [if_neg c2] at H
    have c2b0 : decide (65536 < (a0.size : Int)) = false := decide_eq_false c2
    have c2b1 : decide (65536 < a0.size) = false := decide_eq_false (by omega)
    clear c2
    have H' := Aside0.mk H
    clear H
    go_enter Tryd.func12, Tryd.ntmps12
    go_wp2
    go_loopg [5, 6] k (fun kq v5 v6 w' => ∃ (x5_1 : List (S29)) (x6_1 : Int), v6 = .int .i64 x6_1 ∧ Aside0 (majordomoref11_Lex.l0 kq a0 x5_1 x6_1 = some (r1, r2, r3)) ∧ Aside0 (kq ≤ k) ∧ Aside0 (Kd.R k29 29 w' w.heap.size (fun _ => True) v5 x5_1) ∧ Aside0 (Below w.heap.size w w'))
    case atStart => exact ⟨(([] : List (S29))), (0), (by first | rfl | (simp; done) | (simp [*]; done)), H', ⟨Nat.le_refl _⟩, ⟨by first | exact Kd.R_nil _ _ _ _ _ | exact Kd.N_nil _ _ _ _ _ | exact Kd.V_nil _ _ _ _ _ | exact Kd.Q_nil _ _ _ _ _ | exact Kd.S_nil _ _ _ _ _⟩, ⟨by repeat (first | (with_reducible first | exact HB.out | apply below_alloc | apply pw_below_drewN | apply below_drew1) | exact HB.out)⟩⟩
    case round =>
      clear H'
      try clear c1
      try clear c2
      try clear c2b0
      try clear c2b1
      try clear p2
      obtain ⟨x5_1, x6_1, rfl, HA, HK1, HO_5, HB⟩ := hrel
      cases gk with
      | zero => exact absurd HA.out (by simp [majordomoref11_Lex.l0])
      | succ k1 =>
        have H := HA.out
        clear HA
        simp only [majordomoref11_Lex.l0] at H
        by_cases c3 : x6_1 < (a0.size : Int)
        · rw [if_pos c3] at H
          have c3b0 : decide (x6_1 < (a0.size : Int)) = true := decide_eq_true c3
          clear c3
          by_cases c4 : 0 ≤ x6_1
          · rw [if_pos c4] at H
            have c4b0 : decide (0 ≤ x6_1) = true := decide_eq_true c4
            clear c4
            have HC6 := Aside0.mk H
            clear H
            have p5 : 0 ≤ (x6_1 : Int) := of_decide_eq_true (by first | (with_reducible assumption) | assumption)
            have q5 : x6_1 < (a0.size : Int) := of_decide_eq_true (by first | (with_reducible assumption) | assumption)
            have hx5 := bt_at a0 x6_1
            replace p5 := eq_true p5
            replace q5 := eq_true q5
            go_upto_region 7 with (fail)
            go_cut [33] (fun v33 wc => ∃ (kq : Nat) (x33_5 : Bool), v33 = .bool x33_5 ∧ Aside0 (majordomoref11_Lex.j1 kq a0 x5_1 x6_1 (bt a0 x6_1) x33_5 = some (r1, r2, r3)) ∧ Aside0 (kq ≤ k1) ∧ Aside0 (Kd.R k29 29 wc w.heap.size (fun _ => True) u5 x5_1) ∧ Aside0 (Below w.heap.size w wc))
            case first =>
              have H := HC6.out
              clear HC6
              by_cases c7 : (bt a0 x6_1) = 9
              · rw [if_pos c7] at H
                have c7b0 : ((bt a0 x6_1) == 9) = true := beq_iff_eq.mpr c7
                have c7b1 : ((bt a0 x6_1) != 9) = false := bne_eq_false_iff_eq.mpr c7
                clear c7
                (first | rw [c7b0] | (simp only [i64_w, i32_w]; rw [c7b0]) | skip)
                have H' := Aside0.mk H
                clear H
                go_wp2
                go_meet
                case rel => exact ⟨_, (true), (by first | rfl | (simp; done) | (simp [*]; done)), H', ⟨by have := HK1.out; first | omega | exact Nat.le_refl _⟩, ⟨by (with_reducible repeat (first | apply Kd.R_alloc | apply Kd.R_drewN | apply Kd.R_drew)); exact HO_5.out⟩, ⟨by repeat (first | (with_reducible first | exact HB.out | apply below_alloc | apply pw_below_drewN | apply below_drew1) | exact HB.out)⟩⟩
              · rw [if_neg c7] at H
                have c7b0 : ((bt a0 x6_1) == 9) = false := beq_eq_false_iff_ne.mpr c7
                have c7b1 : ((bt a0 x6_1) != 9) = true := bne_iff_ne.mpr c7
                (first | rw [c7b0] | (simp only [i64_w, i32_w]; rw [c7b0]) | skip)
                by_cases c8 : (bt a0 x6_1) = 10
                · rw [if_pos c8] at H
                  have c8b0 : ((bt a0 x6_1) == 10) = true := beq_iff_eq.mpr c8
                  have c8b1 : ((bt a0 x6_1) != 10) = false := bne_eq_false_iff_eq.mpr c8
                  clear c8
                  have H' := Aside0.mk H
                  clear H
                  go_wp2
                  go_meet
                  case rel => exact ⟨_, (true), (by first | rfl | (simp; done) | (simp [*]; done)), H', ⟨by have := HK1.out; first | omega | exact Nat.le_refl _⟩, ⟨by (with_reducible repeat (first | apply Kd.R_alloc | apply Kd.R_drewN | apply Kd.R_drew)); exact HO_5.out⟩, ⟨by repeat (first | (with_reducible first | exact HB.out | apply below_alloc | apply pw_below_drewN | apply below_drew1) | exact HB.out)⟩⟩
                · rw [if_neg c8] at H
                  have c8b0 : ((bt a0 x6_1) == 10) = false := beq_eq_false_iff_ne.mpr c8
                  have c8b1 : ((bt a0 x6_1) != 10) = true := bne_iff_ne.mpr c8
                  by_cases c9 : (bt a0 x6_1) = 13
                  · rw [if_pos c9] at H
                    have c9b0 : ((bt a0 x6_1) == 13) = true := beq_iff_eq.mpr c9
                    have c9b1 : ((bt a0 x6_1) != 13) = false := bne_eq_false_iff_eq.mpr c9
                    clear c9
                    have H' := Aside0.mk H
                    clear H
                    go_wp2
                    go_meet
                    case rel => exact ⟨_, (true), (by first | rfl | (simp; done) | (simp [*]; done)), H', ⟨by have := HK1.out; first | omega | exact Nat.le_refl _⟩, ⟨by (with_reducible repeat (first | apply Kd.R_alloc | apply Kd.R_drewN | apply Kd.R_drew)); exact HO_5.out⟩, ⟨by repeat (first | (with_reducible first | exact HB.out | apply below_alloc | apply pw_below_drewN | apply below_drew1) | exact HB.out)⟩⟩
                  · rw [if_neg c9] at H
                    have c9b0 : ((bt a0 x6_1) == 13) = false := beq_eq_false_iff_ne.mpr c9
                    have c9b1 : ((bt a0 x6_1) != 13) = true := bne_iff_ne.mpr c9
                    have H' := Aside0.mk H
                    clear H
                    go_wp2
                    go_meet
                    case rel => exact ⟨_, (((bt a0 x6_1) == 32)), (by first | rfl | (simp; done) | (simp [*]; done)), H', ⟨by have := HK1.out; first | omega | exact Nat.le_refl _⟩, ⟨by (with_reducible repeat (first | apply Kd.R_alloc | apply Kd.R_drewN | apply Kd.R_drew)); exact HO_5.out⟩, ⟨by repeat (first | (with_reducible first | exact HB.out | apply below_alloc | apply pw_below_drewN | apply below_drew1) | exact HB.out)⟩⟩
            case rest =>
              clear HC6
              try clear c1
              try clear c2
              try clear c2b0
              try clear c2b1
              try clear p2
              try clear c3
              try clear c3b0
              try clear c4
              try clear c4b0
              try clear p5
              try clear q5
              try clear hx5
              try clear c7
              try clear c7b0
              try clear c7b1
              try clear c8
              try clear c8b0
              try clear c8b1
              try clear c9
              try clear c9b0
              try clear c9b1
              try clear p2
              try clear p5
              try clear q5
              obtain ⟨kq, x33_5, rfl, HA, HJ5, HO_5, HB⟩ := hcut
              cases kq with
              | zero => exact absurd HA.out (by simp [majordomoref11_Lex.j1])
              | succ kj5 =>
                have H := HA.out
                clear HA
                simp only [majordomoref11_Lex.j1] at H
                by_cases c10 : x33_5 = true
                · subst c10
                  have H1 : (majordomoref11_Lex.l0 kj5 a0 x5_1 (wrap64 (x6_1 + 1))) = some (r1, r2, r3) := by rw [if_pos rfl] at H; exact H
                  clear H
                  have H := H1
                  clear H1
                  have H' := Aside0.mk H
                  clear H
                  go_wp2
                  go_roundg kj5
                  case measure => have := HK1.out; have := HJ5.out; omega
                  case rel => exact ⟨(x5_1), (wrap64 (x6_1 + 1)), (by first | rfl | (simp; done) | (simp [*]; done)), H', ⟨by have := HK1.out; have := HJ5.out; omega⟩, ⟨by (with_reducible repeat (first | apply Kd.R_alloc | apply Kd.R_drewN | apply Kd.R_drew)); exact HO_5.out⟩, ⟨by repeat (first | (with_reducible first | exact HB.out | apply below_alloc | apply pw_below_drewN | apply below_drew1) | exact HB.out)⟩⟩
                · replace c10 := Bool.eq_false_iff.mpr c10
                  subst c10
                  have H1 : (if (bt a0 x6_1) = 35 then (majordomoref11_Lex.l1 kj5 a0 x5_1 x6_1) else (if 0 ≤ x6_1 then (if x6_1 ≤ (a0.size : Int) then ((majordomoref11_reach.f kj5 (a0.extract (x6_1 : Int).toNat a0.size)).bind fun t243 => (if x6_1 ≤ (wrap64 (x6_1 + t243)) then (if (wrap64 (x6_1 + t243)) ≤ (a0.size : Int) then ((majordomoref11_word.f kj5 (a0.extract (x6_1 : Int).toNat ((wrap64 (x6_1 + t243)) : Int).toNat)).bind fun bt244 => (majordomoref11_Lex.l2 kj5 a0 x5_1 x6_1 t243 bt244.1 bt244.2.1 bt244.2.2)) else (none)) else (none))) else (none)) else (none))) = some (r1, r2, r3) := by rw [if_neg (show ¬ (false = true) by decide)] at H; exact H
                  clear H
                  have H := H1
                  clear H1
                  by_cases c11 : (bt a0 x6_1) = 35
                  · rw [if_pos c11] at H
                    have c11b0 : ((bt a0 x6_1) == 35) = true := beq_iff_eq.mpr c11
                    have c11b1 : ((bt a0 x6_1) != 35) = false := bne_eq_false_iff_eq.mpr c11
                    clear c11
                    have H' := Aside0.mk H
                    clear H
                    go_wp2
                    go_loopg [6] kj5 (fun kq v6 w' => ∃ (x6_3 : Int), v6 = .int .i64 x6_3 ∧ Aside0 (majordomoref11_Lex.l1 kq a0 x5_1 x6_3 = some (r1, r2, r3)) ∧ Aside0 (kq ≤ kj5) ∧ Aside0 (Kd.R k29 29 w' w.heap.size (fun _ => True) u5 x5_1) ∧ Aside0 (Below w.heap.size w w'))
                    case atStart => exact ⟨(x6_1), (by first | rfl | (simp; done) | (simp [*]; done)), H', ⟨Nat.le_refl _⟩, ⟨by (with_reducible repeat (first | apply Kd.R_alloc | apply Kd.R_drewN | apply Kd.R_drew)); exact HO_5.out⟩, ⟨by repeat (first | (with_reducible first | exact HB.out | apply below_alloc | apply pw_below_drewN | apply below_drew1) | exact HB.out)⟩⟩
                    case round =>
                      clear H'
                      try clear c1
                      try clear c2
                      try clear c2b0
                      try clear c2b1
                      try clear p2
                      try clear c3
                      try clear c3b0
                      try clear c4
                      try clear c4b0
                      try clear p5
                      try clear q5
                      try clear hx5
                      try clear p6
                      try clear c7
                      try clear c7b0
                      try clear c7b1
                      try clear c8
                      try clear c8b0
                      try clear c8b1
                      try clear c9
                      try clear c9b0
                      try clear c9b1
                      try clear c10
                      try clear c11
                      try clear c11b0
                      try clear c11b1
                      try clear p2
                      try clear p5
                      try clear q5
                      obtain ⟨x6_3, rfl, HA, HK3, HO_5, HB⟩ := hrel
                      cases gk with
                      | zero => exact absurd HA.out (by simp [majordomoref11_Lex.l1])
                      | succ k3 =>
                        have H := HA.out
                        clear HA
                        simp only [majordomoref11_Lex.l1] at H
                        by_cases c12 : x6_3 < (a0.size : Int)
                        · rw [if_pos c12] at H
                          have c12b0 : decide (x6_3 < (a0.size : Int)) = true := decide_eq_true c12
                          clear c12
                          by_cases c13 : 0 ≤ x6_3
                          · rw [if_pos c13] at H
                            have c13b0 : decide (0 ≤ x6_3) = true := decide_eq_true c13
                            clear c13
                            by_cases c15 : (bt a0 x6_3) = 10
                            · rw [if_pos c15] at H
                              have c15b0 : ((bt a0 x6_3) == 10) = true := beq_iff_eq.mpr c15
                              have c15b1 : ((bt a0 x6_3) != 10) = false := bne_eq_false_iff_eq.mpr c15
                              clear c15
                              have H' := Aside0.mk H
                              clear H
                              have p14 : 0 ≤ (x6_3 : Int) := of_decide_eq_true (by first | (with_reducible assumption) | assumption)
                              have q14 : x6_3 < (a0.size : Int) := of_decide_eq_true (by first | (with_reducible assumption) | assumption)
                              have hx14 := bt_at a0 x6_3
                              replace p14 := eq_true p14
                              replace q14 := eq_true q14
                              go_wp2
                              go_roundg k3
                              case measure => have := HK1.out; have := HJ5.out; have := HK3.out; omega
                              case rel => exact ⟨(x5_1), (x6_3), (by first | rfl | (simp; done) | (simp [*]; done)), H', ⟨by have := HK1.out; have := HJ5.out; have := HK3.out; omega⟩, ⟨by (with_reducible repeat (first | apply Kd.R_alloc | apply Kd.R_drewN | apply Kd.R_drew)); exact HO_5.out⟩, ⟨by repeat (first | (with_reducible first | exact HB.out | apply below_alloc | apply pw_below_drewN | apply below_drew1) | exact HB.out)⟩⟩
                            · rw [if_neg c15] at H
                              have c15b0 : ((bt a0 x6_3) == 10) = false := beq_eq_false_iff_ne.mpr c15
                              have c15b1 : ((bt a0 x6_3) != 10) = true := bne_iff_ne.mpr c15
                              have H' := Aside0.mk H
                              clear H
                              have p14 : 0 ≤ (x6_3 : Int) := of_decide_eq_true (by first | (with_reducible assumption) | assumption)
                              have q14 : x6_3 < (a0.size : Int) := of_decide_eq_true (by first | (with_reducible assumption) | assumption)
                              have hx14 := bt_at a0 x6_3
                              replace p14 := eq_true p14
                              replace q14 := eq_true q14
                              go_wp2
                              go_roundg k3
                              case measure => have := HK1.out; have := HJ5.out; have := HK3.out; omega
                              case rel => exact ⟨(wrap64 (x6_3 + 1)), (by first | rfl | (simp; done) | (simp [*]; done)), H', ⟨by have := HK1.out; have := HJ5.out; have := HK3.out; omega⟩, ⟨by (with_reducible repeat (first | apply Kd.R_alloc | apply Kd.R_drewN | apply Kd.R_drew)); exact HO_5.out⟩, ⟨by repeat (first | (with_reducible first | exact HB.out | apply below_alloc | apply pw_below_drewN | apply below_drew1) | exact HB.out)⟩⟩
                          · rw [if_neg c13] at H
                            exact absurd H (by simp)
                        · rw [if_neg c12] at H
                          have c12b0 : decide (x6_3 < (a0.size : Int)) = false := decide_eq_false c12
                          clear c12
                          have H' := Aside0.mk H
                          clear H
                          go_wp2
                          go_roundg k3
                          case measure => have := HK1.out; have := HJ5.out; have := HK3.out; omega
                          case rel => exact ⟨(x5_1), (x6_3), (by first | rfl | (simp; done) | (simp [*]; done)), H', ⟨by have := HK1.out; have := HJ5.out; have := HK3.out; omega⟩, ⟨by (with_reducible repeat (first | apply Kd.R_alloc | apply Kd.R_drewN | apply Kd.R_drew)); exact HO_5.out⟩, ⟨by repeat (first | (with_reducible first | exact HB.out | apply below_alloc | apply pw_below_drewN | apply below_drew1) | exact HB.out)⟩⟩
                  · rw [if_neg c11] at H
                    have c11b0 : ((bt a0 x6_1) == 35) = false := beq_eq_false_iff_ne.mpr c11
                    have c11b1 : ((bt a0 x6_1) != 35) = true := bne_iff_ne.mpr c11
                    by_cases c16 : 0 ≤ x6_1
                    · rw [if_pos c16] at H
                      have c16b0 := eq_true c16
                      have c16b1 : decide (0 ≤ x6_1) = true := decide_eq_true c16
                      clear c16
                      by_cases c17 : x6_1 ≤ (a0.size : Int)
                      · rw [if_pos c17] at H
                        have c17b0 := eq_true c17
                        have c17b1 : decide (x6_1 ≤ (a0.size : Int)) = true := decide_eq_true c17
                        clear c17
                        replace H := Option.bind_eq_some_iff.mp H
                        obtain ⟨t243, A180, H⟩ := H
                        replace H : (if x6_1 ≤ (wrap64 (x6_1 + t243)) then (if (wrap64 (x6_1 + t243)) ≤ (a0.size : Int) then ((majordomoref11_word.f kj5 (a0.extract (x6_1 : Int).toNat ((wrap64 (x6_1 + t243)) : Int).toNat)).bind fun bt244 => (majordomoref11_Lex.l2 kj5 a0 x5_1 x6_1 t243 bt244.1 bt244.2.1 bt244.2.2)) else (none)) else (none)) = some (r1, r2, r3) := H
                        have A18 := Aside0.mk A180
                        clear A180
                        have c19b0 := eq_true (of_decide_eq_true (by first | (with_reducible assumption) | assumption) : 0 ≤ x6_1)
                        by_cases c20 : x6_1 ≤ (wrap64 (x6_1 + t243))
                        · rw [if_pos c20] at H
                          have c20b0 := eq_true c20
                          have c20b1 : decide (x6_1 ≤ (wrap64 (x6_1 + t243))) = true := decide_eq_true c20
                          by_cases c21 : (wrap64 (x6_1 + t243)) ≤ (a0.size : Int)
                          · rw [if_pos c21] at H
                            have c21b0 := eq_true c21
                            have c21b1 : decide ((wrap64 (x6_1 + t243)) ≤ (a0.size : Int)) = true := decide_eq_true c21
                            replace H := Option.bind_eq_some_iff.mp H
                            obtain ⟨⟨t244, t245, t246⟩, A220, H⟩ := H
                            replace H : (majordomoref11_Lex.l2 kj5 a0 x5_1 x6_1 t243 t244 t245 t246) = some (r1, r2, r3) := H
                            have A22 := Aside0.mk A220
                            clear A220
                            have H' := Aside0.mk H
                            clear H
                            go_wp2_with (first | ((with_reducible refine gate_callee (f := 23) rfl ?_); refine goesL_ (some 53) rfl rfl Tryd.func23 (by kernel_rfl) rfl #[.string (a0.extract (x6_1 : Int).toNat a0.size)] rfl (by (try simp only [List.map_toArray, List.map_cons, List.map_nil]); first | done | rfl | (simp only [List.length_drop, List.length_take]; rfl)) ?_; (with_reducible refine (majordomoref11_reach.calls kj5 (a0.extract (x6_1 : Int).toNat a0.size) t243 _ A18.out).mono ?_); rintro e w23 ⟨rfl, hb⟩; refine ⟨_, rfl, ?_⟩; have n0_ := Aside0.mk (Kd.R_below (by (with_reducible repeat (first | apply Kd.R_alloc | apply Kd.R_drewN | apply Kd.R_drew)); exact HO_5.out) hb); have n1_ := Aside0.mk (below_step (by repeat (first | (with_reducible first | exact HB.out | apply below_alloc | apply pw_below_drewN | apply below_drew1) | exact HB.out)) hb); clear HO_5; clear HB; have HO_5 := n0_; have HB := n1_; clear n0_ n1_; (try clear hb); (try clear hb2); (try clear hk); (try clear hi)) | ((with_reducible refine gate_callee (f := 24) rfl ?_); refine goesL_ (some 60) rfl rfl Tryd.func24 (by kernel_rfl) rfl #[.string (a0.extract (x6_1 : Int).toNat ((wrap64 (x6_1 + t243)) : Int).toNat)] rfl (by (try simp only [List.map_toArray, List.map_cons, List.map_nil]); first | done | rfl | (simp only [List.length_drop, List.length_take]; rfl)) ?_; (with_reducible refine (majordomoref11_word.calls kj5 (a0.extract (x6_1 : Int).toNat ((wrap64 (x6_1 + t243)) : Int).toNat) t244 t245 t246 _ A22.out).mono ?_); rintro e w24 ⟨rfl, hb⟩; refine ⟨_, rfl, ?_⟩; have n0_ := Aside0.mk (Kd.R_below (by (with_reducible repeat (first | apply Kd.R_alloc | apply Kd.R_drewN | apply Kd.R_drew)); exact HO_5.out) hb); have n1_ := Aside0.mk (below_step (by repeat (first | (with_reducible first | exact HB.out | apply below_alloc | apply pw_below_drewN | apply below_drew1) | exact HB.out)) hb); clear HO_5; clear HB; have HO_5 := n0_; have HB := n1_; clear n0_ n1_; (try clear hb); (try clear hb2); (try clear hk); (try clear hi)) | ((with_reducible refine gate_dst (N := 9) rfl ?_); refine box_event ?hg (N := 9) ?hd (cs := #[.int .i64 0, .string (⟨#[]⟩ : ByteArray), .int .i64 0]) (t := 29) ?hr ?_; (case hd => rfl); (case hg => rfl); (case hr => first | (go_simp; done) | (go_simp; rfl)); intro gb247 hg w25 hbox hb; have n0_ := Aside0.mk (Kd.R_below (Kd.R_elderB (by (with_reducible repeat (first | apply Kd.R_alloc | apply Kd.R_drewN | apply Kd.R_drew)); exact HO_5.out) gb247 (Nat.le_of_eq hg.symm)) hb); have n1_ := Aside0.mk (below_step (by repeat (first | (with_reducible first | exact HB.out | apply below_alloc | apply pw_below_drewN | apply below_drew1) | exact HB.out)) hb); have n2_ := Aside0.mk (hbox); have n3_ := Aside0.mk ((by rw [hg]; exact (below_size (by repeat (first | (with_reducible first | exact HB.out | apply below_alloc | apply pw_below_drewN | apply below_drew1) | exact HB.out))) : w.heap.size ≤ gb247)); have n4_ := Aside0.mk ((by rw [hg]; exact (below_size (by repeat (first | (with_reducible first | exact HB.out | apply below_alloc | apply pw_below_drewN | apply below_drew1) | exact HB.out))) : w.heap.size ≤ gb247)); clear HO_5; clear HB; have HO_5 := n0_; have HB := n1_; have BK247 := n2_; have GW247 := n3_; have GE247 := n4_; clear n0_ n1_ n2_ n3_ n4_; clear hb hbox hg; have hcz26_0 : w25.cell? ⟨gb247, 0, none⟩ = some (.int .i64 0) := (blk_cell BK247.out 0).trans rfl; have hcz26_1 : w25.cell? ⟨gb247, 1, none⟩ = some (.string (⟨#[]⟩ : ByteArray)) := (blk_cell BK247.out 1).trans rfl; have hcz26_2 : w25.cell? ⟨gb247, 2, none⟩ = some (.int .i64 0) := (blk_cell BK247.out 2).trans rfl; have hfz26_0 := blk_frozen BK247.out 0; have hfz26_1 := blk_frozen BK247.out 1; have hfz26_2 := blk_frozen BK247.out 2))
                            go_loopg [8] kj5 (fun kq v8 w' => ∃ (x8_3 : Int) (x248000_3 : Int) (x248001_3 : ByteArray) (x248002_3 : Int), v8 = .int .i64 x8_3 ∧ Aside0 (majordomoref11_Lex.l2 kq a0 x5_1 x6_1 x8_3 x248000_3 x248001_3 x248002_3 = some (r1, r2, r3)) ∧ Aside0 (kq ≤ kj5) ∧ Aside0 (Kd.R k29 29 w' w.heap.size (fun k_ => k_ ≠ gb247) u5 x5_1) ∧ Aside0 (w'.heap[gb247]? = some (.cells #[.int .i64 x248000_3, .string x248001_3, .int .i64 x248002_3] 29 (0, 0))) ∧ Aside0 (Below w.heap.size w w'))
                            case atStart => exact ⟨(t243), (t244), (t245), (t246), (by first | rfl | (simp; done) | (simp [*]; done)), H', ⟨Nat.le_refl _⟩, ⟨by (with_reducible repeat (first | apply Kd.R_alloc | apply Kd.R_drewN | apply Kd.R_drew)); exact Kd.R_mono (Kd.R_far (p := ⟨gb247, 2, none⟩) (Kd.R_far (p := ⟨gb247, 1, none⟩) (Kd.R_far (p := ⟨gb247, 0, none⟩) (Kd.R_mono HO_5.out (fun k_ hk => (⟨hk, hk.2⟩ : _ ∧ k_ ≠ gb247))) (fun _ hk => hk.2) (.int .i64 t244)) (fun _ hk => hk.2) (.string t245)) (fun _ hk => hk.2) (.int .i64 t246)) (fun _ hk => hk.1.2)⟩, ⟨by (with_reducible repeat (first | refine blk_drewN ?_ _ | refine blk_drew ?_ | refine blk_alloc ?_ _)); refine blk_put (cs := #[.int .i64 t244, .string t245, .int .i64 0]) ?_ 2 _ rfl; (with_reducible repeat (first | refine blk_drewN ?_ _ | refine blk_drew ?_ | refine blk_alloc ?_ _)); refine blk_put (cs := #[.int .i64 t244, .string (⟨#[]⟩ : ByteArray), .int .i64 0]) ?_ 1 _ rfl; (with_reducible repeat (first | refine blk_drewN ?_ _ | refine blk_drew ?_ | refine blk_alloc ?_ _)); refine blk_put (cs := #[.int .i64 0, .string (⟨#[]⟩ : ByteArray), .int .i64 0]) ?_ 0 _ rfl; (with_reducible repeat (first | refine blk_drewN ?_ _ | refine blk_drew ?_ | refine blk_alloc ?_ _)); exact BK247.out⟩, ⟨by repeat (first | (with_reducible first | exact HB.out | apply below_alloc | apply pw_below_drewN | apply below_drew1 | refine below_set ?_ GE247.out) | exact HB.out)⟩⟩
                            case round =>
                              clear H'
                              try clear c1
                              try clear p1
                              try clear q1
                              try clear hx1
                              try clear c2
                              try clear c2b0
                              try clear c2b1
                              try clear p2
                              try clear c3
                              try clear c3b0
                              try clear c4
                              try clear c4b0
                              try clear p5
                              try clear q5
                              try clear hx5
                              try clear p6
                              try clear c7
                              try clear c7b0
                              try clear c7b1
                              try clear c8
                              try clear c8b0
                              try clear c8b1
                              try clear c9
                              try clear c9b0
                              try clear c9b1
                              try clear c10
                              try clear c11
                              try clear c11b0
                              try clear c11b1
                              try clear c12
                              try clear c12b0
                              try clear c13
                              try clear c13b0
                              try clear p14
                              try clear q14
                              try clear hx14
                              try clear c15
                              try clear c15b0
                              try clear c15b1
                              try clear c16
                              try clear c16b0
                              try clear c16b1
                              try clear c17
                              try clear c17b0
                              try clear c17b1
                              try clear c19
                              try clear c19b0
                              try clear c20
                              try clear c20b0
                              try clear c20b1
                              try clear c21
                              try clear c21b0
                              try clear c21b1
                              try clear c23
                              try clear c24
                              try clear hcz26_0
                              try clear hcz26_1
                              try clear hcz26_2
                              try clear hfz26_0
                              try clear hfz26_1
                              try clear hfz26_2
                              try clear p14
                              try clear p2
                              try clear p5
                              try clear p6
                              try clear q14
                              try clear q5
                              obtain ⟨x8_3, x248000_3, x248001_3, x248002_3, rfl, HA, HK3, HO_5, BK247, HB⟩ := hrel
                              cases gk with
                              | zero => exact absurd HA.out (by simp [majordomoref11_Lex.l2])
                              | succ k3 =>
                                have H := HA.out
                                clear HA
                                simp only [majordomoref11_Lex.l2] at H
                                by_cases c27 : x8_3 > 0
                                · rw [if_pos c27] at H
                                  have c27b0 : decide (0 < x8_3) = true := decide_eq_true c27
                                  clear c27
                                  by_cases c28 : x248000_3 = 0
                                  · rw [if_pos c28] at H
                                    have c28b0 : (x248000_3 == 0) = true := beq_iff_eq.mpr c28
                                    have c28b1 : (x248000_3 != 0) = false := bne_eq_false_iff_eq.mpr c28
                                    clear c28
                                    by_cases c29 : 0 ≤ x6_1
                                    · rw [if_pos c29] at H
                                      have c29b0 := eq_true c29
                                      have c29b1 : decide (0 ≤ x6_1) = true := decide_eq_true c29
                                      clear c29
                                      by_cases c30 : x6_1 ≤ (wrap64 (x6_1 + (wrap64 (x8_3 - 1))))
                                      · rw [if_pos c30] at H
                                        have c30b0 := eq_true c30
                                        have c30b1 : decide (x6_1 ≤ (wrap64 (x6_1 + (wrap64 (x8_3 - 1))))) = true := decide_eq_true c30
                                        by_cases c31 : (wrap64 (x6_1 + (wrap64 (x8_3 - 1)))) ≤ (a0.size : Int)
                                        · rw [if_pos c31] at H
                                          have c31b0 := eq_true c31
                                          have c31b1 : decide ((wrap64 (x6_1 + (wrap64 (x8_3 - 1)))) ≤ (a0.size : Int)) = true := decide_eq_true c31
                                          replace H := Option.bind_eq_some_iff.mp H
                                          obtain ⟨⟨t248, t249, t250⟩, A320, H⟩ := H
                                          replace H : (majordomoref11_Lex.l2 k3 a0 x5_1 x6_1 (wrap64 (x8_3 - 1)) t248 t249 t250) = some (r1, r2, r3) := H
                                          have A32 := Aside0.mk A320
                                          clear A320
                                          have H' := Aside0.mk H
                                          clear H
                                          have hcz33_0 : wr.cell? ⟨gb247, 0, none⟩ = some (.int .i64 x248000_3) := (blk_cell BK247.out 0).trans rfl
                                          have hcz33_1 : wr.cell? ⟨gb247, 1, none⟩ = some (.string x248001_3) := (blk_cell BK247.out 1).trans rfl
                                          have hcz33_2 : wr.cell? ⟨gb247, 2, none⟩ = some (.int .i64 x248002_3) := (blk_cell BK247.out 2).trans rfl
                                          have hfz33_0 := blk_frozen BK247.out 0
                                          have hfz33_1 := blk_frozen BK247.out 1
                                          have hfz33_2 := blk_frozen BK247.out 2
                                          go_wp2_with (first | ((with_reducible refine gate_callee (f := 24) rfl ?_); refine goesL_ (some 76) rfl rfl Tryd.func24 (by kernel_rfl) rfl #[.string (a0.extract (x6_1 : Int).toNat ((wrap64 (x6_1 + (wrap64 (x8_3 - 1)))) : Int).toNat)] rfl (by (try simp only [List.map_toArray, List.map_cons, List.map_nil]); first | done | rfl | (simp only [List.length_drop, List.length_take]; rfl)) ?_; (with_reducible refine (majordomoref11_word.calls k3 (a0.extract (x6_1 : Int).toNat ((wrap64 (x6_1 + (wrap64 (x8_3 - 1)))) : Int).toNat) t248 t249 t250 _ A32.out).mono ?_); rintro e w34 ⟨rfl, hb⟩; refine ⟨_, rfl, ?_⟩; have n0_ := Aside0.mk (Kd.R_below (by (with_reducible repeat (first | apply Kd.R_alloc | apply Kd.R_drewN | apply Kd.R_drew)); exact HO_5.out) hb); have n1_ := Aside0.mk (blk_below (g := gb247) (o := .cells #[.int .i64 x248000_3, .string x248001_3, .int .i64 x248002_3] 29 (0, 0)) (by (with_reducible repeat (first | refine blk_drewN ?_ _ | refine blk_drew ?_ | refine blk_alloc ?_ _)); exact BK247.out) hb); have n2_ := Aside0.mk (below_step (by repeat (first | (with_reducible first | exact HB.out | apply below_alloc | apply pw_below_drewN | apply below_drew1 | refine below_set ?_ GE247.out) | exact HB.out)) hb); clear HO_5; clear BK247; clear HB; have HO_5 := n0_; have BK247 := n1_; have HB := n2_; clear n0_ n1_ n2_; (try clear hb); (try clear hb2); (try clear hk); (try clear hi); have hcz35_0 : w34.cell? ⟨gb247, 0, none⟩ = some (.int .i64 x248000_3) := (blk_cell BK247.out 0).trans rfl; have hcz35_1 : w34.cell? ⟨gb247, 1, none⟩ = some (.string x248001_3) := (blk_cell BK247.out 1).trans rfl; have hcz35_2 : w34.cell? ⟨gb247, 2, none⟩ = some (.int .i64 x248002_3) := (blk_cell BK247.out 2).trans rfl; have hfz35_0 := blk_frozen BK247.out 0; have hfz35_1 := blk_frozen BK247.out 1; have hfz35_2 := blk_frozen BK247.out 2))
                                          go_roundg k3
                                          case measure => have := HK1.out; have := HJ5.out; have := HK3.out; omega
                                          case rel => exact ⟨(wrap64 (x8_3 - 1)), (t248), (t249), (t250), (by first | rfl | (simp; done) | (simp [*]; done)), H', ⟨by have := HK1.out; have := HJ5.out; have := HK3.out; omega⟩, ⟨by (with_reducible repeat (first | apply Kd.R_alloc | apply Kd.R_drewN | apply Kd.R_drew)); exact Kd.R_mono (Kd.R_far (p := ⟨gb247, 2, none⟩) (Kd.R_far (p := ⟨gb247, 1, none⟩) (Kd.R_far (p := ⟨gb247, 0, none⟩) (Kd.R_mono HO_5.out (fun k_ hk => (⟨hk, hk⟩ : _ ∧ k_ ≠ gb247))) (fun _ hk => hk.2) (.int .i64 t248)) (fun _ hk => hk.2) (.string t249)) (fun _ hk => hk.2) (.int .i64 t250)) (fun _ hk => hk.1)⟩, ⟨by (with_reducible repeat (first | refine blk_drewN ?_ _ | refine blk_drew ?_ | refine blk_alloc ?_ _)); refine blk_put (cs := #[.int .i64 t248, .string t249, .int .i64 x248002_3]) ?_ 2 _ rfl; (with_reducible repeat (first | refine blk_drewN ?_ _ | refine blk_drew ?_ | refine blk_alloc ?_ _)); refine blk_put (cs := #[.int .i64 t248, .string x248001_3, .int .i64 x248002_3]) ?_ 1 _ rfl; (with_reducible repeat (first | refine blk_drewN ?_ _ | refine blk_drew ?_ | refine blk_alloc ?_ _)); refine blk_put (cs := #[.int .i64 x248000_3, .string x248001_3, .int .i64 x248002_3]) ?_ 0 _ rfl; (with_reducible repeat (first | refine blk_drewN ?_ _ | refine blk_drew ?_ | refine blk_alloc ?_ _)); exact BK247.out⟩, ⟨by repeat (first | (with_reducible first | exact HB.out | apply below_alloc | apply pw_below_drewN | apply below_drew1 | refine below_set ?_ GE247.out) | exact HB.out)⟩⟩
                                        · rw [if_neg c31] at H
                                          exact absurd H (by simp)
                                      · rw [if_neg c30] at H
                                        exact absurd H (by simp)
                                    · rw [if_neg c29] at H
                                      exact absurd H (by simp)
                                  · rw [if_neg c28] at H
                                    have c28b0 : (x248000_3 == 0) = false := beq_eq_false_iff_ne.mpr c28
                                    have c28b1 : (x248000_3 != 0) = true := bne_iff_ne.mpr c28
                                    by_cases c36 : x8_3 = 0
                                    · rw [if_pos c36] at H
                                      have c36b0 : (x8_3 == 0) = true := beq_iff_eq.mpr c36
                                      have c36b1 : (x8_3 != 0) = false := bne_eq_false_iff_eq.mpr c36
                                      clear c36
                                      simp only [Option.some.injEq, Prod.mk.injEq] at H
                                      obtain ⟨rfl, rfl, rfl⟩ := H
                                      have hcz37_0 : wr.cell? ⟨gb247, 0, none⟩ = some (.int .i64 x248000_3) := (blk_cell BK247.out 0).trans rfl
                                      have hcz37_1 : wr.cell? ⟨gb247, 1, none⟩ = some (.string x248001_3) := (blk_cell BK247.out 1).trans rfl
                                      have hcz37_2 : wr.cell? ⟨gb247, 2, none⟩ = some (.int .i64 x248002_3) := (blk_cell BK247.out 2).trans rfl
                                      have hfz37_0 := blk_frozen BK247.out 0
                                      have hfz37_1 := blk_frozen BK247.out 1
                                      have hfz37_2 := blk_frozen BK247.out 2
                                      go_wp2
                                      go_ret3
                                      exact ⟨_, by first | rfl | (simp [errW_none, errW_some] <;> rfl) | (simp [*, errW_none, errW_some] <;> rfl), by first | exact Kd.R_nil _ _ _ _ _ | exact Kd.N_nil _ _ _ _ _ | exact Kd.V_nil _ _ _ _ _ | exact Kd.Q_nil _ _ _ _ _ | exact Kd.S_nil _ _ _ _ _, by repeat (first | (with_reducible first | exact HB.out | apply below_alloc | apply pw_below_drewN | apply below_drew1 | refine below_set ?_ GE247.out) | exact HB.out)⟩
                                    · rw [if_neg c36] at H
                                      have c36b0 : (x8_3 == 0) = false := beq_eq_false_iff_ne.mpr c36
                                      have c36b1 : (x8_3 != 0) = true := bne_iff_ne.mpr c36
                                      by_cases c38 : x248000_3 = 6
                                      · rw [if_pos c38] at H
                                        have c38b0 : (x248000_3 == 6) = true := beq_iff_eq.mpr c38
                                        have c38b1 : (x248000_3 != 6) = false := bne_eq_false_iff_eq.mpr c38
                                        clear c38
                                        by_cases c39 : x8_3 > 9
                                        · rw [if_pos c39] at H
                                          have c39b0 : decide (9 < x8_3) = true := decide_eq_true c39
                                          clear c39
                                          simp only [Option.some.injEq, Prod.mk.injEq] at H
                                          obtain ⟨rfl, rfl, rfl⟩ := H
                                          have hcz40_0 : wr.cell? ⟨gb247, 0, none⟩ = some (.int .i64 x248000_3) := (blk_cell BK247.out 0).trans rfl
                                          have hcz40_1 : wr.cell? ⟨gb247, 1, none⟩ = some (.string x248001_3) := (blk_cell BK247.out 1).trans rfl
                                          have hcz40_2 : wr.cell? ⟨gb247, 2, none⟩ = some (.int .i64 x248002_3) := (blk_cell BK247.out 2).trans rfl
                                          have hfz40_0 := blk_frozen BK247.out 0
                                          have hfz40_1 := blk_frozen BK247.out 1
                                          have hfz40_2 := blk_frozen BK247.out 2
                                          go_wp2
                                          go_ret3
                                          exact ⟨_, by first | rfl | (simp [errW_none, errW_some] <;> rfl) | (simp [*, errW_none, errW_some] <;> rfl), by first | exact Kd.R_nil _ _ _ _ _ | exact Kd.N_nil _ _ _ _ _ | exact Kd.V_nil _ _ _ _ _ | exact Kd.Q_nil _ _ _ _ _ | exact Kd.S_nil _ _ _ _ _, by repeat (first | (with_reducible first | exact HB.out | apply below_alloc | apply pw_below_drewN | apply below_drew1 | refine below_set ?_ GE247.out) | exact HB.out)⟩
                                        · rw [if_neg c39] at H
                                          have c39b0 : decide (9 < x8_3) = false := decide_eq_false c39
                                          clear c39
                                          by_cases c41 : x5_1.length < 4398046511104
                                          · rw [if_pos c41] at H
                                            have LMc41 := Aside0.mk c41
                                            clear c41
                                            obtain ⟨y251, hy251⟩ : ∃ y_ : List (S29), y_ = (x5_1 ++ [(⟨x248000_3, x248001_3, x6_1⟩ : S29)]) := ⟨_, rfl⟩
                                            replace H : (majordomoref11_Lex.l0 k3 a0 y251 (wrap64 (x6_1 + x8_3))) = some (r1, r2, r3) := by first | (rw [hy251]; with_reducible exact H) | (have H2_ := (Option.bind_some _ _).symm.trans H; rw [hy251]; with_reducible exact H2_) | (have H2_ := (Option.bind_some _ _).symm.trans H; with_reducible exact H2_) | with_reducible exact H | (rw [hy251]; exact H) | exact H
                                            have Ny251 := Aside0.mk hy251
                                            clear hy251
                                            have H' := Aside0.mk H
                                            clear H
                                            have hcz42_0 : wr.cell? ⟨gb247, 0, none⟩ = some (.int .i64 x248000_3) := (blk_cell BK247.out 0).trans rfl
                                            have hcz42_1 : wr.cell? ⟨gb247, 1, none⟩ = some (.string x248001_3) := (blk_cell BK247.out 1).trans rfl
                                            have hcz42_2 : wr.cell? ⟨gb247, 2, none⟩ = some (.int .i64 x248002_3) := (blk_cell BK247.out 2).trans rfl
                                            have hfz42_0 := blk_frozen BK247.out 0
                                            have hfz42_1 := blk_frozen BK247.out 1
                                            have hfz42_2 := blk_frozen BK247.out 2
                                            go_wp2_with (first | ((with_reducible refine gate_builtin (b := .append) (xs := #[.tmp 91, .tmp 93]) rfl ?_); at_builtin; refine Kd.R_append k29 (w0 := w) w.heap.size rfl (.tmp 91) (.tmp 93) 23 29 (.agg #[(.int .i64 0), (.string ⟨#[]⟩), (.int .i64 0)]) 32 rfl Tryd.underlying23 info29 rfl (by decide) (by omega) u5 x5_1 (⟨x248000_3, x248001_3, x6_1⟩ : S29) [.int .i64 x248000_3, .string x248001_3, .int .i64 x6_1] (fun k_ => k_ ≠ gb247) (fun _ => False) rfl (by first | (go_simp; done) | (go_simp; rfl)) ?aP (fun _ hk => hk.elim) ?aF ?aO ?aB ?aS ?aL ?_; (case aP => exact k29_mkM _ _ _ (⟨x248000_3, x248001_3, x6_1⟩ : S29)); (case aB => exact (by repeat (first | (with_reducible first | exact HB.out | apply below_alloc | apply pw_below_drewN | apply below_drew1 | refine below_set ?_ GE247.out) | exact HB.out))); (case aF => exact (fun k_ hk => Kd.freshB (g := gb247) (o := .cells #[.int .i64 x248000_3, .string x248001_3, .int .i64 x6_1] 29 (0, 0)) (by (with_reducible repeat (first | refine blk_drewN ?_ _ | refine blk_drew ?_ | refine blk_alloc ?_ _)); refine blk_put (cs := #[.int .i64 x248000_3, .string x248001_3, .int .i64 x248002_3]) ?_ 2 _ rfl; (with_reducible repeat (first | refine blk_drewN ?_ _ | refine blk_drew ?_ | refine blk_alloc ?_ _)); exact BK247.out) k_ hk)); (case aO => exact (by (with_reducible repeat (first | apply Kd.R_alloc | apply Kd.R_drewN | apply Kd.R_drew)); exact Kd.R_mono (Kd.R_far (p := ⟨gb247, 2, none⟩) (Kd.R_mono HO_5.out (fun k_ hk => (⟨hk, hk⟩ : _ ∧ k_ ≠ gb247))) (fun _ hk => hk.2) (.int .i64 x6_1)) (fun _ hk => hk.1))); (case aS => exact (below_size (by repeat (first | (with_reducible first | exact HB.out | apply below_alloc | apply pw_below_drewN | apply below_drew1 | refine below_set ?_ GE247.out) | exact HB.out)))); (case aL => have := LMc41.out; omega); intro v252 w43 ho hb hg hat; rw [← Ny251.out] at ho; have n0_ := Aside0.mk (blk_grown (g := gb247) (o := .cells #[.int .i64 x248000_3, .string x248001_3, .int .i64 x6_1] 29 (0, 0)) (by (with_reducible repeat (first | refine blk_drewN ?_ _ | refine blk_drew ?_ | refine blk_alloc ?_ _)); refine blk_put (cs := #[.int .i64 x248000_3, .string x248001_3, .int .i64 x248002_3]) ?_ 2 _ rfl; (with_reducible repeat (first | refine blk_drewN ?_ _ | refine blk_drew ?_ | refine blk_alloc ?_ _)); exact BK247.out) hg (Kd.R_away HO_5.out (fun _ hk => hk))); have n1_ := Aside0.mk (hb); have n2_ := Aside0.mk (ho); clear BK247; clear HB; clear HO_5; have BK247 := n0_; have HB := n1_; have HO253 := n2_; clear n0_ n1_ n2_; clear ho hb hg hat))
                                            go_roundg k3
                                            case measure => have := HK1.out; have := HJ5.out; have := HK3.out; omega
                                            case rel => exact ⟨(y251), (wrap64 (x6_1 + x8_3)), (by first | rfl | (simp; done) | (simp [*]; done)), H', ⟨by have := HK1.out; have := HJ5.out; have := HK3.out; omega⟩, ⟨by (with_reducible repeat (first | apply Kd.R_alloc | apply Kd.R_drewN | apply Kd.R_drew)); exact Kd.R_mono HO253.out (fun _ hk => trivial)⟩, ⟨by repeat (first | (with_reducible first | exact HB.out | apply below_alloc | apply pw_below_drewN | apply below_drew1 | refine below_set ?_ GE247.out) | exact HB.out)⟩⟩
                                          · rw [if_neg c41] at H
                                            exact absurd H (by simp)
                                      · rw [if_neg c38] at H
                                        have c38b0 : (x248000_3 == 6) = false := beq_eq_false_iff_ne.mpr c38
                                        have c38b1 : (x248000_3 != 6) = true := bne_iff_ne.mpr c38
                                        by_cases c44 : x5_1.length < 4398046511104
                                        · rw [if_pos c44] at H
                                          have LMc44 := Aside0.mk c44
                                          clear c44
                                          obtain ⟨y254, hy254⟩ : ∃ y_ : List (S29), y_ = (x5_1 ++ [(⟨x248000_3, x248001_3, x6_1⟩ : S29)]) := ⟨_, rfl⟩
                                          replace H : (majordomoref11_Lex.l0 k3 a0 y254 (wrap64 (x6_1 + x8_3))) = some (r1, r2, r3) := by first | (rw [hy254]; with_reducible exact H) | (have H2_ := (Option.bind_some _ _).symm.trans H; rw [hy254]; with_reducible exact H2_) | (have H2_ := (Option.bind_some _ _).symm.trans H; with_reducible exact H2_) | with_reducible exact H | (rw [hy254]; exact H) | exact H
                                          have Ny254 := Aside0.mk hy254
                                          clear hy254
                                          have H' := Aside0.mk H
                                          clear H
                                          have hcz45_0 : wr.cell? ⟨gb247, 0, none⟩ = some (.int .i64 x248000_3) := (blk_cell BK247.out 0).trans rfl
                                          have hcz45_1 : wr.cell? ⟨gb247, 1, none⟩ = some (.string x248001_3) := (blk_cell BK247.out 1).trans rfl
                                          have hcz45_2 : wr.cell? ⟨gb247, 2, none⟩ = some (.int .i64 x248002_3) := (blk_cell BK247.out 2).trans rfl
                                          have hfz45_0 := blk_frozen BK247.out 0
                                          have hfz45_1 := blk_frozen BK247.out 1
                                          have hfz45_2 := blk_frozen BK247.out 2
                                          go_wp2_with (first | ((with_reducible refine gate_builtin (b := .append) (xs := #[.tmp 91, .tmp 93]) rfl ?_); at_builtin; refine Kd.R_append k29 (w0 := w) w.heap.size rfl (.tmp 91) (.tmp 93) 23 29 (.agg #[(.int .i64 0), (.string ⟨#[]⟩), (.int .i64 0)]) 32 rfl Tryd.underlying23 info29 rfl (by decide) (by omega) u5 x5_1 (⟨x248000_3, x248001_3, x6_1⟩ : S29) [.int .i64 x248000_3, .string x248001_3, .int .i64 x6_1] (fun k_ => k_ ≠ gb247) (fun _ => False) rfl (by first | (go_simp; done) | (go_simp; rfl)) ?aP (fun _ hk => hk.elim) ?aF ?aO ?aB ?aS ?aL ?_; (case aP => exact k29_mkM _ _ _ (⟨x248000_3, x248001_3, x6_1⟩ : S29)); (case aB => exact (by repeat (first | (with_reducible first | exact HB.out | apply below_alloc | apply pw_below_drewN | apply below_drew1 | refine below_set ?_ GE247.out) | exact HB.out))); (case aF => exact (fun k_ hk => Kd.freshB (g := gb247) (o := .cells #[.int .i64 x248000_3, .string x248001_3, .int .i64 x6_1] 29 (0, 0)) (by (with_reducible repeat (first | refine blk_drewN ?_ _ | refine blk_drew ?_ | refine blk_alloc ?_ _)); refine blk_put (cs := #[.int .i64 x248000_3, .string x248001_3, .int .i64 x248002_3]) ?_ 2 _ rfl; (with_reducible repeat (first | refine blk_drewN ?_ _ | refine blk_drew ?_ | refine blk_alloc ?_ _)); exact BK247.out) k_ hk)); (case aO => exact (by (with_reducible repeat (first | apply Kd.R_alloc | apply Kd.R_drewN | apply Kd.R_drew)); exact Kd.R_mono (Kd.R_far (p := ⟨gb247, 2, none⟩) (Kd.R_mono HO_5.out (fun k_ hk => (⟨hk, hk⟩ : _ ∧ k_ ≠ gb247))) (fun _ hk => hk.2) (.int .i64 x6_1)) (fun _ hk => hk.1))); (case aS => exact (below_size (by repeat (first | (with_reducible first | exact HB.out | apply below_alloc | apply pw_below_drewN | apply below_drew1 | refine below_set ?_ GE247.out) | exact HB.out)))); (case aL => have := LMc44.out; omega); intro v255 w46 ho hb hg hat; rw [← Ny254.out] at ho; have n0_ := Aside0.mk (blk_grown (g := gb247) (o := .cells #[.int .i64 x248000_3, .string x248001_3, .int .i64 x6_1] 29 (0, 0)) (by (with_reducible repeat (first | refine blk_drewN ?_ _ | refine blk_drew ?_ | refine blk_alloc ?_ _)); refine blk_put (cs := #[.int .i64 x248000_3, .string x248001_3, .int .i64 x248002_3]) ?_ 2 _ rfl; (with_reducible repeat (first | refine blk_drewN ?_ _ | refine blk_drew ?_ | refine blk_alloc ?_ _)); exact BK247.out) hg (Kd.R_away HO_5.out (fun _ hk => hk))); have n1_ := Aside0.mk (hb); have n2_ := Aside0.mk (ho); clear BK247; clear HB; clear HO_5; have BK247 := n0_; have HB := n1_; have HO256 := n2_; clear n0_ n1_ n2_; clear ho hb hg hat))
                                          go_roundg k3
                                          case measure => have := HK1.out; have := HJ5.out; have := HK3.out; omega
                                          case rel => exact ⟨(y254), (wrap64 (x6_1 + x8_3)), (by first | rfl | (simp; done) | (simp [*]; done)), H', ⟨by have := HK1.out; have := HJ5.out; have := HK3.out; omega⟩, ⟨by (with_reducible repeat (first | apply Kd.R_alloc | apply Kd.R_drewN | apply Kd.R_drew)); exact Kd.R_mono HO256.out (fun _ hk => trivial)⟩, ⟨by repeat (first | (with_reducible first | exact HB.out | apply below_alloc | apply pw_below_drewN | apply below_drew1 | refine below_set ?_ GE247.out) | exact HB.out)⟩⟩
                                        · rw [if_neg c44] at H
                                          exact absurd H (by simp)
                                · rw [if_neg c27] at H
                                  have c27b0 : decide (0 < x8_3) = false := decide_eq_false c27
                                  clear c27
                                  by_cases c47 : x8_3 = 0
                                  · rw [if_pos c47] at H
                                    have c47b0 : (x8_3 == 0) = true := beq_iff_eq.mpr c47
                                    have c47b1 : (x8_3 != 0) = false := bne_eq_false_iff_eq.mpr c47
                                    clear c47
                                    simp only [Option.some.injEq, Prod.mk.injEq] at H
                                    obtain ⟨rfl, rfl, rfl⟩ := H
                                    go_wp2
                                    go_ret3
                                    exact ⟨_, by first | rfl | (simp [errW_none, errW_some] <;> rfl) | (simp [*, errW_none, errW_some] <;> rfl), by first | exact Kd.R_nil _ _ _ _ _ | exact Kd.N_nil _ _ _ _ _ | exact Kd.V_nil _ _ _ _ _ | exact Kd.Q_nil _ _ _ _ _ | exact Kd.S_nil _ _ _ _ _, by repeat (first | (with_reducible first | exact HB.out | apply below_alloc | apply pw_below_drewN | apply below_drew1 | refine below_set ?_ GE247.out) | exact HB.out)⟩
                                  · rw [if_neg c47] at H
                                    have c47b0 : (x8_3 == 0) = false := beq_eq_false_iff_ne.mpr c47
                                    have c47b1 : (x8_3 != 0) = true := bne_iff_ne.mpr c47
                                    by_cases c48 : x248000_3 = 6
                                    · rw [if_pos c48] at H
                                      have c48b0 : (x248000_3 == 6) = true := beq_iff_eq.mpr c48
                                      have c48b1 : (x248000_3 != 6) = false := bne_eq_false_iff_eq.mpr c48
                                      clear c48
                                      by_cases c49 : x8_3 > 9
                                      · rw [if_pos c49] at H
                                        have c49b0 : decide (9 < x8_3) = true := decide_eq_true c49
                                        clear c49
                                        simp only [Option.some.injEq, Prod.mk.injEq] at H
                                        obtain ⟨rfl, rfl, rfl⟩ := H
                                        have hcz50_0 : wr.cell? ⟨gb247, 0, none⟩ = some (.int .i64 x248000_3) := (blk_cell BK247.out 0).trans rfl
                                        have hcz50_1 : wr.cell? ⟨gb247, 1, none⟩ = some (.string x248001_3) := (blk_cell BK247.out 1).trans rfl
                                        have hcz50_2 : wr.cell? ⟨gb247, 2, none⟩ = some (.int .i64 x248002_3) := (blk_cell BK247.out 2).trans rfl
                                        have hfz50_0 := blk_frozen BK247.out 0
                                        have hfz50_1 := blk_frozen BK247.out 1
                                        have hfz50_2 := blk_frozen BK247.out 2
                                        go_wp2
                                        go_ret3
                                        exact ⟨_, by first | rfl | (simp [errW_none, errW_some] <;> rfl) | (simp [*, errW_none, errW_some] <;> rfl), by first | exact Kd.R_nil _ _ _ _ _ | exact Kd.N_nil _ _ _ _ _ | exact Kd.V_nil _ _ _ _ _ | exact Kd.Q_nil _ _ _ _ _ | exact Kd.S_nil _ _ _ _ _, by repeat (first | (with_reducible first | exact HB.out | apply below_alloc | apply pw_below_drewN | apply below_drew1 | refine below_set ?_ GE247.out) | exact HB.out)⟩
                                      · rw [if_neg c49] at H
                                        have c49b0 : decide (9 < x8_3) = false := decide_eq_false c49
                                        clear c49
                                        by_cases c51 : x5_1.length < 4398046511104
                                        · rw [if_pos c51] at H
                                          have LMc51 := Aside0.mk c51
                                          clear c51
                                          obtain ⟨y257, hy257⟩ : ∃ y_ : List (S29), y_ = (x5_1 ++ [(⟨x248000_3, x248001_3, x6_1⟩ : S29)]) := ⟨_, rfl⟩
                                          replace H : (majordomoref11_Lex.l0 k3 a0 y257 (wrap64 (x6_1 + x8_3))) = some (r1, r2, r3) := by first | (rw [hy257]; with_reducible exact H) | (have H2_ := (Option.bind_some _ _).symm.trans H; rw [hy257]; with_reducible exact H2_) | (have H2_ := (Option.bind_some _ _).symm.trans H; with_reducible exact H2_) | with_reducible exact H | (rw [hy257]; exact H) | exact H
                                          have Ny257 := Aside0.mk hy257
                                          clear hy257
                                          have H' := Aside0.mk H
                                          clear H
                                          have hcz52_0 : wr.cell? ⟨gb247, 0, none⟩ = some (.int .i64 x248000_3) := (blk_cell BK247.out 0).trans rfl
                                          have hcz52_1 : wr.cell? ⟨gb247, 1, none⟩ = some (.string x248001_3) := (blk_cell BK247.out 1).trans rfl
                                          have hcz52_2 : wr.cell? ⟨gb247, 2, none⟩ = some (.int .i64 x248002_3) := (blk_cell BK247.out 2).trans rfl
                                          have hfz52_0 := blk_frozen BK247.out 0
                                          have hfz52_1 := blk_frozen BK247.out 1
                                          have hfz52_2 := blk_frozen BK247.out 2
                                          go_wp2_with (first | ((with_reducible refine gate_builtin (b := .append) (xs := #[.tmp 91, .tmp 93]) rfl ?_); at_builtin; refine Kd.R_append k29 (w0 := w) w.heap.size rfl (.tmp 91) (.tmp 93) 23 29 (.agg #[(.int .i64 0), (.string ⟨#[]⟩), (.int .i64 0)]) 32 rfl Tryd.underlying23 info29 rfl (by decide) (by omega) u5 x5_1 (⟨x248000_3, x248001_3, x6_1⟩ : S29) [.int .i64 x248000_3, .string x248001_3, .int .i64 x6_1] (fun k_ => k_ ≠ gb247) (fun _ => False) rfl (by first | (go_simp; done) | (go_simp; rfl)) ?aP (fun _ hk => hk.elim) ?aF ?aO ?aB ?aS ?aL ?_; (case aP => exact k29_mkM _ _ _ (⟨x248000_3, x248001_3, x6_1⟩ : S29)); (case aB => exact (by repeat (first | (with_reducible first | exact HB.out | apply below_alloc | apply pw_below_drewN | apply below_drew1 | refine below_set ?_ GE247.out) | exact HB.out))); (case aF => exact (fun k_ hk => Kd.freshB (g := gb247) (o := .cells #[.int .i64 x248000_3, .string x248001_3, .int .i64 x6_1] 29 (0, 0)) (by (with_reducible repeat (first | refine blk_drewN ?_ _ | refine blk_drew ?_ | refine blk_alloc ?_ _)); refine blk_put (cs := #[.int .i64 x248000_3, .string x248001_3, .int .i64 x248002_3]) ?_ 2 _ rfl; (with_reducible repeat (first | refine blk_drewN ?_ _ | refine blk_drew ?_ | refine blk_alloc ?_ _)); exact BK247.out) k_ hk)); (case aO => exact (by (with_reducible repeat (first | apply Kd.R_alloc | apply Kd.R_drewN | apply Kd.R_drew)); exact Kd.R_mono (Kd.R_far (p := ⟨gb247, 2, none⟩) (Kd.R_mono HO_5.out (fun k_ hk => (⟨hk, hk⟩ : _ ∧ k_ ≠ gb247))) (fun _ hk => hk.2) (.int .i64 x6_1)) (fun _ hk => hk.1))); (case aS => exact (below_size (by repeat (first | (with_reducible first | exact HB.out | apply below_alloc | apply pw_below_drewN | apply below_drew1 | refine below_set ?_ GE247.out) | exact HB.out)))); (case aL => have := LMc51.out; omega); intro v258 w53 ho hb hg hat; rw [← Ny257.out] at ho; have n0_ := Aside0.mk (blk_grown (g := gb247) (o := .cells #[.int .i64 x248000_3, .string x248001_3, .int .i64 x6_1] 29 (0, 0)) (by (with_reducible repeat (first | refine blk_drewN ?_ _ | refine blk_drew ?_ | refine blk_alloc ?_ _)); refine blk_put (cs := #[.int .i64 x248000_3, .string x248001_3, .int .i64 x248002_3]) ?_ 2 _ rfl; (with_reducible repeat (first | refine blk_drewN ?_ _ | refine blk_drew ?_ | refine blk_alloc ?_ _)); exact BK247.out) hg (Kd.R_away HO_5.out (fun _ hk => hk))); have n1_ := Aside0.mk (hb); have n2_ := Aside0.mk (ho); clear BK247; clear HB; clear HO_5; have BK247 := n0_; have HB := n1_; have HO259 := n2_; clear n0_ n1_ n2_; clear ho hb hg hat))
                                          go_roundg k3
                                          case measure => have := HK1.out; have := HJ5.out; have := HK3.out; omega
                                          case rel => exact ⟨(y257), (wrap64 (x6_1 + x8_3)), (by first | rfl | (simp; done) | (simp [*]; done)), H', ⟨by have := HK1.out; have := HJ5.out; have := HK3.out; omega⟩, ⟨by (with_reducible repeat (first | apply Kd.R_alloc | apply Kd.R_drewN | apply Kd.R_drew)); exact Kd.R_mono HO259.out (fun _ hk => trivial)⟩, ⟨by repeat (first | (with_reducible first | exact HB.out | apply below_alloc | apply pw_below_drewN | apply below_drew1 | refine below_set ?_ GE247.out) | exact HB.out)⟩⟩
                                        · rw [if_neg c51] at H
                                          exact absurd H (by simp)
                                    · rw [if_neg c48] at H
                                      have c48b0 : (x248000_3 == 6) = false := beq_eq_false_iff_ne.mpr c48
                                      have c48b1 : (x248000_3 != 6) = true := bne_iff_ne.mpr c48
                                      by_cases c54 : x5_1.length < 4398046511104
                                      · rw [if_pos c54] at H
                                        have LMc54 := Aside0.mk c54
                                        clear c54
                                        obtain ⟨y260, hy260⟩ : ∃ y_ : List (S29), y_ = (x5_1 ++ [(⟨x248000_3, x248001_3, x6_1⟩ : S29)]) := ⟨_, rfl⟩
                                        replace H : (majordomoref11_Lex.l0 k3 a0 y260 (wrap64 (x6_1 + x8_3))) = some (r1, r2, r3) := by first | (rw [hy260]; with_reducible exact H) | (have H2_ := (Option.bind_some _ _).symm.trans H; rw [hy260]; with_reducible exact H2_) | (have H2_ := (Option.bind_some _ _).symm.trans H; with_reducible exact H2_) | with_reducible exact H | (rw [hy260]; exact H) | exact H
                                        have Ny260 := Aside0.mk hy260
                                        clear hy260
                                        have H' := Aside0.mk H
                                        clear H
                                        have hcz55_0 : wr.cell? ⟨gb247, 0, none⟩ = some (.int .i64 x248000_3) := (blk_cell BK247.out 0).trans rfl
                                        have hcz55_1 : wr.cell? ⟨gb247, 1, none⟩ = some (.string x248001_3) := (blk_cell BK247.out 1).trans rfl
                                        have hcz55_2 : wr.cell? ⟨gb247, 2, none⟩ = some (.int .i64 x248002_3) := (blk_cell BK247.out 2).trans rfl
                                        have hfz55_0 := blk_frozen BK247.out 0
                                        have hfz55_1 := blk_frozen BK247.out 1
                                        have hfz55_2 := blk_frozen BK247.out 2
                                        go_wp2_with (first | ((with_reducible refine gate_builtin (b := .append) (xs := #[.tmp 91, .tmp 93]) rfl ?_); at_builtin; refine Kd.R_append k29 (w0 := w) w.heap.size rfl (.tmp 91) (.tmp 93) 23 29 (.agg #[(.int .i64 0), (.string ⟨#[]⟩), (.int .i64 0)]) 32 rfl Tryd.underlying23 info29 rfl (by decide) (by omega) u5 x5_1 (⟨x248000_3, x248001_3, x6_1⟩ : S29) [.int .i64 x248000_3, .string x248001_3, .int .i64 x6_1] (fun k_ => k_ ≠ gb247) (fun _ => False) rfl (by first | (go_simp; done) | (go_simp; rfl)) ?aP (fun _ hk => hk.elim) ?aF ?aO ?aB ?aS ?aL ?_; (case aP => exact k29_mkM _ _ _ (⟨x248000_3, x248001_3, x6_1⟩ : S29)); (case aB => exact (by repeat (first | (with_reducible first | exact HB.out | apply below_alloc | apply pw_below_drewN | apply below_drew1 | refine below_set ?_ GE247.out) | exact HB.out))); (case aF => exact (fun k_ hk => Kd.freshB (g := gb247) (o := .cells #[.int .i64 x248000_3, .string x248001_3, .int .i64 x6_1] 29 (0, 0)) (by (with_reducible repeat (first | refine blk_drewN ?_ _ | refine blk_drew ?_ | refine blk_alloc ?_ _)); refine blk_put (cs := #[.int .i64 x248000_3, .string x248001_3, .int .i64 x248002_3]) ?_ 2 _ rfl; (with_reducible repeat (first | refine blk_drewN ?_ _ | refine blk_drew ?_ | refine blk_alloc ?_ _)); exact BK247.out) k_ hk)); (case aO => exact (by (with_reducible repeat (first | apply Kd.R_alloc | apply Kd.R_drewN | apply Kd.R_drew)); exact Kd.R_mono (Kd.R_far (p := ⟨gb247, 2, none⟩) (Kd.R_mono HO_5.out (fun k_ hk => (⟨hk, hk⟩ : _ ∧ k_ ≠ gb247))) (fun _ hk => hk.2) (.int .i64 x6_1)) (fun _ hk => hk.1))); (case aS => exact (below_size (by repeat (first | (with_reducible first | exact HB.out | apply below_alloc | apply pw_below_drewN | apply below_drew1 | refine below_set ?_ GE247.out) | exact HB.out)))); (case aL => have := LMc54.out; omega); intro v261 w56 ho hb hg hat; rw [← Ny260.out] at ho; have n0_ := Aside0.mk (blk_grown (g := gb247) (o := .cells #[.int .i64 x248000_3, .string x248001_3, .int .i64 x6_1] 29 (0, 0)) (by (with_reducible repeat (first | refine blk_drewN ?_ _ | refine blk_drew ?_ | refine blk_alloc ?_ _)); refine blk_put (cs := #[.int .i64 x248000_3, .string x248001_3, .int .i64 x248002_3]) ?_ 2 _ rfl; (with_reducible repeat (first | refine blk_drewN ?_ _ | refine blk_drew ?_ | refine blk_alloc ?_ _)); exact BK247.out) hg (Kd.R_away HO_5.out (fun _ hk => hk))); have n1_ := Aside0.mk (hb); have n2_ := Aside0.mk (ho); clear BK247; clear HB; clear HO_5; have BK247 := n0_; have HB := n1_; have HO262 := n2_; clear n0_ n1_ n2_; clear ho hb hg hat))
                                        go_roundg k3
                                        case measure => have := HK1.out; have := HJ5.out; have := HK3.out; omega
                                        case rel => exact ⟨(y260), (wrap64 (x6_1 + x8_3)), (by first | rfl | (simp; done) | (simp [*]; done)), H', ⟨by have := HK1.out; have := HJ5.out; have := HK3.out; omega⟩, ⟨by (with_reducible repeat (first | apply Kd.R_alloc | apply Kd.R_drewN | apply Kd.R_drew)); exact Kd.R_mono HO262.out (fun _ hk => trivial)⟩, ⟨by repeat (first | (with_reducible first | exact HB.out | apply below_alloc | apply pw_below_drewN | apply below_drew1 | refine below_set ?_ GE247.out) | exact HB.out)⟩⟩
                                      · rw [if_neg c54] at H
                                        exact absurd H (by simp)
                          · rw [if_neg c21] at H
                            exact absurd H (by simp)
                        · rw [if_neg c20] at H
                          exact absurd H (by simp)
                      · rw [if_neg c17] at H
                        exact absurd H (by simp)
                    · rw [if_neg c16] at H
                      exact absurd H (by simp)
          · rw [if_neg c4] at H
            exact absurd H (by simp)
        · rw [if_neg c3] at H
          have c3b0 : decide (x6_1 < (a0.size : Int)) = false := decide_eq_false c3
          clear c3
          simp only [Option.some.injEq, Prod.mk.injEq] at H
          obtain ⟨rfl, rfl, rfl⟩ := H
          go_wp2
          go_ret3
          exact ⟨_, by first | rfl | (simp [errW_none, errW_some] <;> rfl) | (simp [*, errW_none, errW_some] <;> rfl), by (with_reducible repeat (first | apply Kd.R_alloc | apply Kd.R_drewN | apply Kd.R_drew)); exact HO_5.out, by repeat (first | (with_reducible first | exact HB.out | apply below_alloc | apply pw_below_drewN | apply below_drew1) | exact HB.out)⟩

/-! ### majordomoref11_Same: function 13 -/
def majordomoref11_Same.l0 : Nat → List (S29) → List (S29) → Int → Option (Bool)
  | 0, _, _, _ => none
  | k + 1, x0, x1, x5 => if x5 < (x0.length : Int) then (if 0 ≤ x5 then (if x5 < (x1.length : Int) then (if (!(((rd_T29 x0 x5).f0) == ((rd_T29 x1 x5).f0)) || (!((((rd_T29 x0 x5).f1).toList) == (((rd_T29 x1 x5).f1).toList)) || (!(((rd_T29 x0 x5).f2) == ((rd_T29 x1 x5).f2))))) = true then (some false) else (majordomoref11_Same.l0 k x0 x1 (wrap64 (x5 + 1)))) else (none)) else (none)) else (some true)
def majordomoref11_Same.f (k : Nat) (l0 : List (S29)) (l1 : List (S29)) : Option (Bool) := if (l0.length : Int) = (l1.length : Int) then (majordomoref11_Same.l0 k l0 l1 0) else (some false)
theorem majordomoref11_Same.mono_l : ∀ k, (∀ y0 y1 y2, LeO (majordomoref11_Same.l0 k y0 y1 y2) (majordomoref11_Same.l0 (k + 1) y0 y1 y2))
  | 0 => fun _ _ _ r h => by simp [majordomoref11_Same.l0] at h
  | k + 1 => by
    have ih0 := majordomoref11_Same.mono_l k
    · intro y0 y1 y2
      unfold majordomoref11_Same.l0
      repeat' first
      | (with_reducible exact ih0 _ _ _)
      | (with_reducible exact LeO.refl _)
      | (with_reducible exact LeO.none _)
      | (with_reducible refine LeO.ite ?_ ?_)
      | (with_reducible refine LeO.bind ?_ (fun _ => ?_))
      | exact ih0 _ _ _
      | exact LeO.none _
      | refine LeO.ite ?_ ?_
      | refine LeO.bind ?_ (fun _ => ?_)
theorem majordomoref11_Same.mono : ∀ a0 a1 k, LeO (majordomoref11_Same.f k a0 a1) (majordomoref11_Same.f (k + 1) a0 a1) := by
  intro a0 a1 k
  have ih0 := majordomoref11_Same.mono_l k
  unfold majordomoref11_Same.f
  repeat' first
      | (with_reducible exact ih0 _ _ _)
      | (with_reducible exact LeO.refl _)
      | (with_reducible exact LeO.none _)
      | (with_reducible refine LeO.ite ?_ ?_)
      | (with_reducible refine LeO.bind ?_ (fun _ => ?_))
      | exact ih0 _ _ _
      | exact LeO.none _
      | refine LeO.ite ?_ ?_
      | refine LeO.bind ?_ (fun _ => ?_)
set_option maxHeartbeats 8000000 in
set_option maxRecDepth 100000 in
theorem majordomoref11_Same.calls (k : Nat) (A0 : Option Addr) (c0 : Nat) (l0 : List (S29)) (A1 : Option Addr) (c1 : Nat) (l1 : List (S29)) (r : Bool) (w : World) (hr0 : Kd.C k29 w A0 l0.length l0) (hc0 : l0.length ≤ c0) (hr1 : Kd.C k29 w A1 l1.length l1) (hc1 : l1.length ≤ c1) (h : majordomoref11_Same.f k l0 l1 = some r) :
    Calls Tryd.prog 13 #[.slice A0 l0.length c0, .slice A1 l1.length c1] w fun e w' => e = .returned (.bool r) ∧ Drawn0 w w' := by
  have hu29 := Tryd.underlying29
  have HR0 := Aside0.mk hr0
  have HC0 := Aside0.mk hc0
  clear hr0 hc0
  have HR1 := Aside0.mk hr1
  have HC1 := Aside0.mk hc1
  clear hr1 hc1
  have H : (if (l0.length : Int) = (l1.length : Int) then (majordomoref11_Same.l0 k l0 l1 0) else (some false)) = some r := h
  clear h
  by_cases c3 : (l0.length : Int) = (l1.length : Int)
  · rw [if_pos c3] at H
    have c3b0 : ((l0.length : Int) == (l1.length : Int)) = true := beq_iff_eq.mpr c3
    have c3b1 : ((l0.length : Int) != (l1.length : Int)) = false := bne_eq_false_iff_eq.mpr c3
    have c3b2 : (l0.length == l1.length) = true := by first | simpa using c3 | (simp at c3 ⊢; omega)
    clear c3
    have H' := Aside0.mk H
    clear H
    go_enter Tryd.func13, Tryd.ntmps13
    go_wp2
    repeat (go_quiet (fail); try go_wp2)
    go_loopg [5] k (fun kq v5 w' => ∃ (x5_1 : Int), v5 = .int .i64 x5_1 ∧ Aside0 (majordomoref11_Same.l0 kq l0 l1 x5_1 = some r) ∧ Aside0 (kq ≤ k) ∧ Drawn0 w w')
    case atStart => exact ⟨(0), (by first | rfl | (simp; done) | (simp [*]; done)), H', ⟨Nat.le_refl _⟩, by repeat (first | exact Drawn0.refl _ | apply Drawn0.step)⟩
    case round =>
      clear H'
      try clear c1
      try clear p2
      try clear c3
      try clear c3b0
      try clear c3b1
      try clear c3b2
      obtain ⟨x5_1, rfl, HA, HK1, ⟨m1, rfl⟩⟩ := hrel
      cases gk with
      | zero => exact absurd HA.out (by simp [majordomoref11_Same.l0])
      | succ k1 =>
        have H := HA.out
        clear HA
        simp only [majordomoref11_Same.l0] at H
        by_cases c4 : x5_1 < (l0.length : Int)
        · rw [if_pos c4] at H
          have c4b0 : decide (x5_1 < (l0.length : Int)) = true := decide_eq_true c4
          clear c4
          by_cases c5 : 0 ≤ x5_1
          · rw [if_pos c5] at H
            have c5b0 : decide (0 ≤ x5_1) = true := decide_eq_true c5
            clear c5
            by_cases c6 : x5_1 < (l1.length : Int)
            · rw [if_pos c6] at H
              have c6b0 : decide (x5_1 < (l1.length : Int)) = true := decide_eq_true c6
              clear c6
              by_cases c7 : (!(((rd_T29 l0 x5_1).f0) == ((rd_T29 l1 x5_1).f0)) || (!((((rd_T29 l0 x5_1).f1).toList) == (((rd_T29 l1 x5_1).f1).toList)) || (!(((rd_T29 l0 x5_1).f2) == ((rd_T29 l1 x5_1).f2))))) = true
              · rw [if_pos c7] at H
                have c7b0 : (!(((rd_T29 l0 x5_1).f0) == ((rd_T29 l1 x5_1).f0)) || (!((((rd_T29 l0 x5_1).f1).toList) == (((rd_T29 l1 x5_1).f1).toList)) || (!(((rd_T29 l0 x5_1).f2) == ((rd_T29 l1 x5_1).f2))))) = true := c7
                clear c7
                obtain rfl := Option.some.inj H
                have p263 : 0 ≤ (x5_1 : Int) := of_decide_eq_true (by first | (with_reducible assumption) | assumption)
                have q263 : x5_1 < (l0.length : Int) := of_decide_eq_true (by first | (with_reducible assumption) | assumption)
                obtain ⟨ad263, e263, hx263_0, hx263_1, hx263_2⟩ := at_T29 HR0.out x5_1 p263 q263
                cases e263
                replace p263 := eq_true p263
                replace q263 := eq_true q263
                have p264 : 0 ≤ (x5_1 : Int) := of_decide_eq_true (by first | (with_reducible assumption) | assumption)
                have q264 : x5_1 < (l1.length : Int) := of_decide_eq_true (by first | (with_reducible assumption) | assumption)
                obtain ⟨ad264, e264, hx264_0, hx264_1, hx264_2⟩ := at_T29 HR1.out x5_1 p264 q264
                cases e264
                replace p264 := eq_true p264
                replace q264 := eq_true q264
                go_wp2
                repeat (go_quiet (fail); try go_wp2)
                go_ret
                exact ⟨by first | rfl | (simp; done) | (simp [*]; done), by repeat (first | exact Drawn0.refl _ | apply Drawn0.step)⟩
              · rw [if_neg c7] at H
                have c7b0 : (!(((rd_T29 l0 x5_1).f0) == ((rd_T29 l1 x5_1).f0)) || (!((((rd_T29 l0 x5_1).f1).toList) == (((rd_T29 l1 x5_1).f1).toList)) || (!(((rd_T29 l0 x5_1).f2) == ((rd_T29 l1 x5_1).f2))))) = false := by simpa using c7
                clear c7
                have H' := Aside0.mk H
                clear H
                have p263 : 0 ≤ (x5_1 : Int) := of_decide_eq_true (by first | (with_reducible assumption) | assumption)
                have q263 : x5_1 < (l0.length : Int) := of_decide_eq_true (by first | (with_reducible assumption) | assumption)
                obtain ⟨ad263, e263, hx263_0, hx263_1, hx263_2⟩ := at_T29 HR0.out x5_1 p263 q263
                cases e263
                replace p263 := eq_true p263
                replace q263 := eq_true q263
                have p264 : 0 ≤ (x5_1 : Int) := of_decide_eq_true (by first | (with_reducible assumption) | assumption)
                have q264 : x5_1 < (l1.length : Int) := of_decide_eq_true (by first | (with_reducible assumption) | assumption)
                obtain ⟨ad264, e264, hx264_0, hx264_1, hx264_2⟩ := at_T29 HR1.out x5_1 p264 q264
                cases e264
                replace p264 := eq_true p264
                replace q264 := eq_true q264
                go_wp2
                repeat (go_quiet (fail); try go_wp2)
                go_roundg k1
                case measure => have := HK1.out; omega
                case rel => exact ⟨(wrap64 (x5_1 + 1)), (by first | rfl | (simp; done) | (simp [*]; done)), H', ⟨by have := HK1.out; omega⟩, by repeat (first | exact Drawn0.refl _ | apply Drawn0.step)⟩
            · rw [if_neg c6] at H
              exact absurd H (by simp)
          · rw [if_neg c5] at H
            exact absurd H (by simp)
        · rw [if_neg c4] at H
          have c4b0 : decide (x5_1 < (l0.length : Int)) = false := decide_eq_false c4
          clear c4
          obtain rfl := Option.some.inj H
          go_wp2
          repeat (go_quiet (fail); try go_wp2)
          go_ret
          exact ⟨by first | rfl | (simp; done) | (simp [*]; done), by repeat (first | exact Drawn0.refl _ | apply Drawn0.step)⟩
  · rw [if_neg c3] at H
    have c3b0 : ((l0.length : Int) == (l1.length : Int)) = false := beq_eq_false_iff_ne.mpr c3
    have c3b1 : ((l0.length : Int) != (l1.length : Int)) = true := bne_iff_ne.mpr c3
    have c3b2 : (l0.length == l1.length) = false := by first | simpa using c3 | (simp at c3 ⊢; omega)
    obtain rfl := Option.some.inj H
    go_enter Tryd.func13, Tryd.ntmps13
    go_wp2
    repeat (go_quiet (fail); try go_wp2)
    go_ret
    exact ⟨by first | rfl | (simp; done) | (simp [*]; done), by repeat (first | exact Drawn0.refl _ | apply Drawn0.step)⟩

end Go.Proofs.YtjjhopcbipedaaaDoor.PX
