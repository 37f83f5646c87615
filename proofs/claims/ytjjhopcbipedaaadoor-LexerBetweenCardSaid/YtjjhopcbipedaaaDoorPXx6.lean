-- printed by wip/printx (a program of this session's, over the kit's print)
import Derived.Test.YtjjhopcbipedaaaDoorPXx0
import Derived.Test.YtjjhopcbipedaaaDoorPXx4
import Derived.Test.YtjjhopcbipedaaaDoorPXx5
namespace Go.Proofs.YtjjhopcbipedaaaDoor.PX
open Go.RowKit Go.Proofs.YtjjhopcbipedaaaDoorW.PrintWords Go.Proofs.YtjjhopcbipedaaaDoorW.PrintLast Go.Proofs.YtjjhopcbipedaaaDoorW.PrintMore
attribute [local go_sem] max2_int min2_int max_two min_two max_three min_three max_four min_four Go.Proofs.YtjjhopcbipedaaaDoor.PxMore.isSome_setCell   -- for this text's walks alone
set_option linter.unusedVariables false
set_option linter.unusedSimpArgs false

/-! ### majordomolaw11_blank: function 11 -/
def majordomolaw11_blank.l0 : Nat → ByteArray → Bool → Int → Option (Bool)
  | 0, _, _, _ => none
  | k + 1, x0, x3, x4 => if x4 < (x0.size : Int) then (if 0 ≤ x4 then (if (bt x0 x4) = 10 then (majordomolaw11_blank.l0 k x0 false (wrap64 (x4 + 1))) else (if x3 = true then (majordomolaw11_blank.l0 k x0 x3 (wrap64 (x4 + 1))) else (if (bt x0 x4) = 35 then (majordomolaw11_blank.l0 k x0 true (wrap64 (x4 + 1))) else (if (bt x0 x4) = 9 then (majordomolaw11_blank.l0 k x0 x3 (wrap64 (x4 + 1))) else (if (bt x0 x4) = 13 then (majordomolaw11_blank.l0 k x0 x3 (wrap64 (x4 + 1))) else (if (bt x0 x4) = 32 then (majordomolaw11_blank.l0 k x0 x3 (wrap64 (x4 + 1))) else (some false))))))) else (none)) else (some true)
def majordomolaw11_blank.f (k : Nat) (a0 : ByteArray) : Option (Bool) := majordomolaw11_blank.l0 k a0 false 0
theorem majordomolaw11_blank.mono_l : ∀ k, (∀ y0 y1 y2, LeO (majordomolaw11_blank.l0 k y0 y1 y2) (majordomolaw11_blank.l0 (k + 1) y0 y1 y2))
  | 0 => fun _ _ _ r h => by simp [majordomolaw11_blank.l0] at h
  | k + 1 => by
    have ih0 := majordomolaw11_blank.mono_l k
    · intro y0 y1 y2
      unfold majordomolaw11_blank.l0
      repeat' first
      | (with_reducible exact ih0 _ _ _)
      | (with_reducible exact LeO.refl _)
      | (with_reducible exact LeO.none _)
      | (with_reducible refine LeO.ite ?_ ?_)
      | (with_reducible refine LeO.bind ?_ (fun _ => ?_))
      | exact ih0 _ _ _
      | exact LeO.none _
      | refine LeO.ite ?_ ?_
      | refine LeO.bind ?_ (fun _ => ?_)
theorem majordomolaw11_blank.mono : ∀ a0 k, LeO (majordomolaw11_blank.f k a0) (majordomolaw11_blank.f (k + 1) a0) := by
  intro a0 k
  have ih0 := majordomolaw11_blank.mono_l k
  unfold majordomolaw11_blank.f
  repeat' first
      | (with_reducible exact ih0 _ _ _)
      | (with_reducible exact LeO.refl _)
      | (with_reducible exact LeO.none _)
      | (with_reducible refine LeO.ite ?_ ?_)
      | (with_reducible refine LeO.bind ?_ (fun _ => ?_))
      | exact ih0 _ _ _
      | exact LeO.none _
      | refine LeO.ite ?_ ?_
      | refine LeO.bind ?_ (fun _ => ?_)
set_option maxHeartbeats 8000000 in
set_option maxRecDepth 100000 in
theorem majordomolaw11_blank.calls (k : Nat) (a0 : ByteArray) (r : Bool) (w : World) (h : majordomolaw11_blank.f k a0 = some r) :
    Calls Tryd.prog 11 #[.string a0] w fun e w' => e = .returned (.bool r) ∧ Drawn0 w w' := by
  have H : (majordomolaw11_blank.l0 k a0 false 0) = some r := h
  clear h
  have H' := Aside0.mk H
  clear H
  go_enter Tryd.func11, Tryd.ntmps11
  go_wp2
  go_loopg [3, 4] k (fun kq v3 v4 w' => ∃ (x3_1 : Bool) (x4_1 : Int), v3 = .bool x3_1 ∧ v4 = .int .i64 x4_1 ∧ Aside0 (majordomolaw11_blank.l0 kq a0 x3_1 x4_1 = some r) ∧ Aside0 (kq ≤ k) ∧ Drawn0 w w')
  case atStart => exact ⟨(false), (0), (by first | rfl | (simp; done) | (simp [*]; done)), (by first | rfl | (simp; done) | (simp [*]; done)), H', ⟨Nat.le_refl _⟩, by repeat (first | exact Drawn0.refl _ | apply Drawn0.step)⟩
  case round =>
    clear H'
    try clear c1
    obtain ⟨x3_1, x4_1, rfl, rfl, HA, HK1, ⟨m1, rfl⟩⟩ := hrel
    cases gk with
    | zero => exact absurd HA.out (by simp [majordomolaw11_blank.l0])
    | succ k1 =>
      have H := HA.out
      clear HA
      simp only [majordomolaw11_blank.l0] at H
      by_cases c2 : x4_1 < (a0.size : Int)
      · rw [if_pos c2] at H
        have c2b0 : decide (x4_1 < (a0.size : Int)) = true := decide_eq_true c2
        clear c2
        by_cases c3 : 0 ≤ x4_1
        · rw [if_pos c3] at H
          have c3b0 : decide (0 ≤ x4_1) = true := decide_eq_true c3
          clear c3
          by_cases c5 : (bt a0 x4_1) = 10
          · rw [if_pos c5] at H
            have c5b0 : ((bt a0 x4_1) == 10) = true := beq_iff_eq.mpr c5
            have c5b1 : ((bt a0 x4_1) != 10) = false := bne_eq_false_iff_eq.mpr c5
            clear c5
            have H' := Aside0.mk H
            clear H
            have p4 : 0 ≤ (x4_1 : Int) := of_decide_eq_true (by first | (with_reducible assumption) | assumption)
            have q4 : x4_1 < (a0.size : Int) := of_decide_eq_true (by first | (with_reducible assumption) | assumption)
            have hx4 := bt_at a0 x4_1
            replace p4 := eq_true p4
            replace q4 := eq_true q4
            go_wp2
            go_roundg k1
            case measure => have := HK1.out; omega
            case rel => exact ⟨(false), (wrap64 (x4_1 + 1)), (by first | rfl | (simp; done) | (simp [*]; done)), (by first | rfl | (simp; done) | (simp [*]; done)), H', ⟨by have := HK1.out; omega⟩, by repeat (first | exact Drawn0.refl _ | apply Drawn0.step)⟩
          · rw [if_neg c5] at H
            have c5b0 : ((bt a0 x4_1) == 10) = false := beq_eq_false_iff_ne.mpr c5
            have c5b1 : ((bt a0 x4_1) != 10) = true := bne_iff_ne.mpr c5
            by_cases c6 : x3_1 = true
            · subst c6
              have H1 : (majordomolaw11_blank.l0 k1 a0 true (wrap64 (x4_1 + 1))) = some r := by rw [if_pos rfl] at H; exact H
              clear H
              have H := H1
              clear H1
              have H' := Aside0.mk H
              clear H
              have p4 : 0 ≤ (x4_1 : Int) := of_decide_eq_true (by first | (with_reducible assumption) | assumption)
              have q4 : x4_1 < (a0.size : Int) := of_decide_eq_true (by first | (with_reducible assumption) | assumption)
              have hx4 := bt_at a0 x4_1
              replace p4 := eq_true p4
              replace q4 := eq_true q4
              go_wp2
              go_roundg k1
              case measure => have := HK1.out; omega
              case rel => exact ⟨(true), (wrap64 (x4_1 + 1)), (by first | rfl | (simp; done) | (simp [*]; done)), (by first | rfl | (simp; done) | (simp [*]; done)), H', ⟨by have := HK1.out; omega⟩, by repeat (first | exact Drawn0.refl _ | apply Drawn0.step)⟩
            · replace c6 := Bool.eq_false_iff.mpr c6
              subst c6
              have H1 : (if (bt a0 x4_1) = 35 then (majordomolaw11_blank.l0 k1 a0 true (wrap64 (x4_1 + 1))) else (if (bt a0 x4_1) = 9 then (majordomolaw11_blank.l0 k1 a0 false (wrap64 (x4_1 + 1))) else (if (bt a0 x4_1) = 13 then (majordomolaw11_blank.l0 k1 a0 false (wrap64 (x4_1 + 1))) else (if (bt a0 x4_1) = 32 then (majordomolaw11_blank.l0 k1 a0 false (wrap64 (x4_1 + 1))) else (some false))))) = some r := by rw [if_neg (show ¬ (false = true) by decide)] at H; exact H
              clear H
              have H := H1
              clear H1
              by_cases c8 : (bt a0 x4_1) = 35
              · rw [if_pos c8] at H
                have c8b0 : ((bt a0 x4_1) == 35) = true := beq_iff_eq.mpr c8
                have c8b1 : ((bt a0 x4_1) != 35) = false := bne_eq_false_iff_eq.mpr c8
                clear c8
                have H' := Aside0.mk H
                clear H
                have p4 : 0 ≤ (x4_1 : Int) := of_decide_eq_true (by first | (with_reducible assumption) | assumption)
                have q4 : x4_1 < (a0.size : Int) := of_decide_eq_true (by first | (with_reducible assumption) | assumption)
                have hx4 := bt_at a0 x4_1
                replace p4 := eq_true p4
                replace q4 := eq_true q4
                have p7 : 0 ≤ (x4_1 : Int) := of_decide_eq_true (by first | (with_reducible assumption) | assumption)
                have q7 : x4_1 < (a0.size : Int) := of_decide_eq_true (by first | (with_reducible assumption) | assumption)
                have hx7 := bt_at a0 x4_1
                replace p7 := eq_true p7
                replace q7 := eq_true q7
                go_wp2
                go_roundg k1
                case measure => have := HK1.out; omega
                case rel => exact ⟨(true), (wrap64 (x4_1 + 1)), (by first | rfl | (simp; done) | (simp [*]; done)), (by first | rfl | (simp; done) | (simp [*]; done)), H', ⟨by have := HK1.out; omega⟩, by repeat (first | exact Drawn0.refl _ | apply Drawn0.step)⟩
              · rw [if_neg c8] at H
                have c8b0 : ((bt a0 x4_1) == 35) = false := beq_eq_false_iff_ne.mpr c8
                have c8b1 : ((bt a0 x4_1) != 35) = true := bne_iff_ne.mpr c8
                by_cases c10 : (bt a0 x4_1) = 9
                · rw [if_pos c10] at H
                  have c10b0 : ((bt a0 x4_1) == 9) = true := beq_iff_eq.mpr c10
                  have c10b1 : ((bt a0 x4_1) != 9) = false := bne_eq_false_iff_eq.mpr c10
                  clear c10
                  have H' := Aside0.mk H
                  clear H
                  have p4 : 0 ≤ (x4_1 : Int) := of_decide_eq_true (by first | (with_reducible assumption) | assumption)
                  have q4 : x4_1 < (a0.size : Int) := of_decide_eq_true (by first | (with_reducible assumption) | assumption)
                  have hx4 := bt_at a0 x4_1
                  replace p4 := eq_true p4
                  replace q4 := eq_true q4
                  have p7 : 0 ≤ (x4_1 : Int) := of_decide_eq_true (by first | (with_reducible assumption) | assumption)
                  have q7 : x4_1 < (a0.size : Int) := of_decide_eq_true (by first | (with_reducible assumption) | assumption)
                  have hx7 := bt_at a0 x4_1
                  replace p7 := eq_true p7
                  replace q7 := eq_true q7
                  have p9 : 0 ≤ (x4_1 : Int) := of_decide_eq_true (by first | (with_reducible assumption) | assumption)
                  have q9 : x4_1 < (a0.size : Int) := of_decide_eq_true (by first | (with_reducible assumption) | assumption)
                  have hx9 := bt_at a0 x4_1
                  replace p9 := eq_true p9
                  replace q9 := eq_true q9
                  go_wp2
                  go_roundg k1
                  case measure => have := HK1.out; omega
                  case rel => exact ⟨(false), (wrap64 (x4_1 + 1)), (by first | rfl | (simp; done) | (simp [*]; done)), (by first | rfl | (simp; done) | (simp [*]; done)), H', ⟨by have := HK1.out; omega⟩, by repeat (first | exact Drawn0.refl _ | apply Drawn0.step)⟩
                · rw [if_neg c10] at H
                  have c10b0 : ((bt a0 x4_1) == 9) = false := beq_eq_false_iff_ne.mpr c10
                  have c10b1 : ((bt a0 x4_1) != 9) = true := bne_iff_ne.mpr c10
                  by_cases c12 : (bt a0 x4_1) = 13
                  · rw [if_pos c12] at H
                    have c12b0 : ((bt a0 x4_1) == 13) = true := beq_iff_eq.mpr c12
                    have c12b1 : ((bt a0 x4_1) != 13) = false := bne_eq_false_iff_eq.mpr c12
                    clear c12
                    have H' := Aside0.mk H
                    clear H
                    have p4 : 0 ≤ (x4_1 : Int) := of_decide_eq_true (by first | (with_reducible assumption) | assumption)
                    have q4 : x4_1 < (a0.size : Int) := of_decide_eq_true (by first | (with_reducible assumption) | assumption)
                    have hx4 := bt_at a0 x4_1
                    replace p4 := eq_true p4
                    replace q4 := eq_true q4
                    have p7 : 0 ≤ (x4_1 : Int) := of_decide_eq_true (by first | (with_reducible assumption) | assumption)
                    have q7 : x4_1 < (a0.size : Int) := of_decide_eq_true (by first | (with_reducible assumption) | assumption)
                    have hx7 := bt_at a0 x4_1
                    replace p7 := eq_true p7
                    replace q7 := eq_true q7
                    have p9 : 0 ≤ (x4_1 : Int) := of_decide_eq_true (by first | (with_reducible assumption) | assumption)
                    have q9 : x4_1 < (a0.size : Int) := of_decide_eq_true (by first | (with_reducible assumption) | assumption)
                    have hx9 := bt_at a0 x4_1
                    replace p9 := eq_true p9
                    replace q9 := eq_true q9
                    have p11 : 0 ≤ (x4_1 : Int) := of_decide_eq_true (by first | (with_reducible assumption) | assumption)
                    have q11 : x4_1 < (a0.size : Int) := of_decide_eq_true (by first | (with_reducible assumption) | assumption)
                    have hx11 := bt_at a0 x4_1
                    replace p11 := eq_true p11
                    replace q11 := eq_true q11
                    go_wp2
                    go_roundg k1
                    case measure => have := HK1.out; omega
                    case rel => exact ⟨(false), (wrap64 (x4_1 + 1)), (by first | rfl | (simp; done) | (simp [*]; done)), (by first | rfl | (simp; done) | (simp [*]; done)), H', ⟨by have := HK1.out; omega⟩, by repeat (first | exact Drawn0.refl _ | apply Drawn0.step)⟩
                  · rw [if_neg c12] at H
                    have c12b0 : ((bt a0 x4_1) == 13) = false := beq_eq_false_iff_ne.mpr c12
                    have c12b1 : ((bt a0 x4_1) != 13) = true := bne_iff_ne.mpr c12
                    by_cases c14 : (bt a0 x4_1) = 32
                    · rw [if_pos c14] at H
                      have c14b0 : ((bt a0 x4_1) == 32) = true := beq_iff_eq.mpr c14
                      have c14b1 : ((bt a0 x4_1) != 32) = false := bne_eq_false_iff_eq.mpr c14
                      clear c14
                      have H' := Aside0.mk H
                      clear H
                      have p4 : 0 ≤ (x4_1 : Int) := of_decide_eq_true (by first | (with_reducible assumption) | assumption)
                      have q4 : x4_1 < (a0.size : Int) := of_decide_eq_true (by first | (with_reducible assumption) | assumption)
                      have hx4 := bt_at a0 x4_1
                      replace p4 := eq_true p4
                      replace q4 := eq_true q4
                      have p7 : 0 ≤ (x4_1 : Int) := of_decide_eq_true (by first | (with_reducible assumption) | assumption)
                      have q7 : x4_1 < (a0.size : Int) := of_decide_eq_true (by first | (with_reducible assumption) | assumption)
                      have hx7 := bt_at a0 x4_1
                      replace p7 := eq_true p7
                      replace q7 := eq_true q7
                      have p9 : 0 ≤ (x4_1 : Int) := of_decide_eq_true (by first | (with_reducible assumption) | assumption)
                      have q9 : x4_1 < (a0.size : Int) := of_decide_eq_true (by first | (with_reducible assumption) | assumption)
                      have hx9 := bt_at a0 x4_1
                      replace p9 := eq_true p9
                      replace q9 := eq_true q9
                      have p11 : 0 ≤ (x4_1 : Int) := of_decide_eq_true (by first | (with_reducible assumption) | assumption)
                      have q11 : x4_1 < (a0.size : Int) := of_decide_eq_true (by first | (with_reducible assumption) | assumption)
                      have hx11 := bt_at a0 x4_1
                      replace p11 := eq_true p11
                      replace q11 := eq_true q11
                      have p13 : 0 ≤ (x4_1 : Int) := of_decide_eq_true (by first | (with_reducible assumption) | assumption)
                      have q13 : x4_1 < (a0.size : Int) := of_decide_eq_true (by first | (with_reducible assumption) | assumption)
                      have hx13 := bt_at a0 x4_1
                      replace p13 := eq_true p13
                      replace q13 := eq_true q13
                      go_wp2
                      go_roundg k1
                      case measure => have := HK1.out; omega
                      case rel => exact ⟨(false), (wrap64 (x4_1 + 1)), (by first | rfl | (simp; done) | (simp [*]; done)), (by first | rfl | (simp; done) | (simp [*]; done)), H', ⟨by have := HK1.out; omega⟩, by repeat (first | exact Drawn0.refl _ | apply Drawn0.step)⟩
                    · rw [if_neg c14] at H
                      have c14b0 : ((bt a0 x4_1) == 32) = false := beq_eq_false_iff_ne.mpr c14
                      have c14b1 : ((bt a0 x4_1) != 32) = true := bne_iff_ne.mpr c14
                      obtain rfl := Option.some.inj H
                      have p4 : 0 ≤ (x4_1 : Int) := of_decide_eq_true (by first | (with_reducible assumption) | assumption)
                      have q4 : x4_1 < (a0.size : Int) := of_decide_eq_true (by first | (with_reducible assumption) | assumption)
                      have hx4 := bt_at a0 x4_1
                      replace p4 := eq_true p4
                      replace q4 := eq_true q4
                      have p7 : 0 ≤ (x4_1 : Int) := of_decide_eq_true (by first | (with_reducible assumption) | assumption)
                      have q7 : x4_1 < (a0.size : Int) := of_decide_eq_true (by first | (with_reducible assumption) | assumption)
                      have hx7 := bt_at a0 x4_1
                      replace p7 := eq_true p7
                      replace q7 := eq_true q7
                      have p9 : 0 ≤ (x4_1 : Int) := of_decide_eq_true (by first | (with_reducible assumption) | assumption)
                      have q9 : x4_1 < (a0.size : Int) := of_decide_eq_true (by first | (with_reducible assumption) | assumption)
                      have hx9 := bt_at a0 x4_1
                      replace p9 := eq_true p9
                      replace q9 := eq_true q9
                      have p11 : 0 ≤ (x4_1 : Int) := of_decide_eq_true (by first | (with_reducible assumption) | assumption)
                      have q11 : x4_1 < (a0.size : Int) := of_decide_eq_true (by first | (with_reducible assumption) | assumption)
                      have hx11 := bt_at a0 x4_1
                      replace p11 := eq_true p11
                      replace q11 := eq_true q11
                      have p13 : 0 ≤ (x4_1 : Int) := of_decide_eq_true (by first | (with_reducible assumption) | assumption)
                      have q13 : x4_1 < (a0.size : Int) := of_decide_eq_true (by first | (with_reducible assumption) | assumption)
                      have hx13 := bt_at a0 x4_1
                      replace p13 := eq_true p13
                      replace q13 := eq_true q13
                      go_wp2
                      go_ret
                      exact ⟨by first | rfl | (simp; done) | (simp [*]; done), by repeat (first | exact Drawn0.refl _ | apply Drawn0.step)⟩
        · rw [if_neg c3] at H
          exact absurd H (by simp)
      · rw [if_neg c2] at H
        have c2b0 : decide (x4_1 < (a0.size : Int)) = false := decide_eq_false c2
        clear c2
        obtain rfl := Option.some.inj H
        go_wp2
        go_ret
        exact ⟨by first | rfl | (simp; done) | (simp [*]; done), by repeat (first | exact Drawn0.refl _ | apply Drawn0.step)⟩

/-! ### majordomolaw11_LexerBetween: function 3 -/
mutual
def majordomolaw11_LexerBetween.j0 : Nat → ByteArray → Bool → List (S29) → Bool → Option (Bool)
  | 0, _, _, _, _ => none
  | k + 1, x0, x3, x4, x27 => if x27 = true then (if x3 = true then (some ((x4.length : Int) == 0)) else (some false)) else (majordomolaw11_LexerBetween.l0 k x0 x4 0 0)
def majordomolaw11_LexerBetween.l0 : Nat → ByteArray → List (S29) → Int → Int → Option (Bool)
  | 0, _, _, _, _ => none
  | k + 1, x0, x4, x7, x8 => if x8 < (x4.length : Int) then (if 0 ≤ x8 then ((majordomoref11_Text.f ((rd_T29 x4 x8).f0) ((rd_T29 x4 x8).f1) ((rd_T29 x4 x8).f2)).bind fun t156 => (if ((rd_T29 x4 x8).f2) < x7 then (majordomolaw11_LexerBetween.j2 k x0 x4 x7 x8 t156 ((rd_T29 x4 x8).f2) true) else (if (wrap64 (((rd_T29 x4 x8).f2) + (t156.size : Int))) > (x0.size : Int) then (majordomolaw11_LexerBetween.j2 k x0 x4 x7 x8 t156 ((rd_T29 x4 x8).f2) true) else (if 0 ≤ ((rd_T29 x4 x8).f2) then (if ((rd_T29 x4 x8).f2) ≤ (wrap64 (((rd_T29 x4 x8).f2) + (t156.size : Int))) then (if (wrap64 (((rd_T29 x4 x8).f2) + (t156.size : Int))) ≤ (x0.size : Int) then (majordomolaw11_LexerBetween.j2 k x0 x4 x7 x8 t156 ((rd_T29 x4 x8).f2) ((x0.extract (((rd_T29 x4 x8).f2) : Int).toNat ((wrap64 (((rd_T29 x4 x8).f2) + (t156.size : Int))) : Int).toNat).toList != t156.toList)) else (none)) else (none)) else (none))))) else (none)) else (if 0 ≤ x7 then (if x7 ≤ (x0.size : Int) then ((majordomolaw11_blank.f k (x0.extract (x7 : Int).toNat x0.size)).bind fun t154 => (some t154)) else (none)) else (none))
def majordomolaw11_LexerBetween.j2 : Nat → ByteArray → List (S29) → Int → Int → ByteArray → Int → Bool → Option (Bool)
  | 0, _, _, _, _, _, _, _ => none
  | k + 1, x0, x4, x7, x8, x9, x10, x72 => if x72 = true then (some false) else (if 0 ≤ x7 then (if x7 ≤ x10 then (if x10 ≤ (x0.size : Int) then ((majordomolaw11_blank.f k (x0.extract (x7 : Int).toNat (x10 : Int).toNat)).bind fun t158 => ((lexer_Lex.f k x9).bind fun bt159 => (if t158 = true then (if bt159.2.2 = 0 then (if (bt159.1.length : Int) = 1 then (if 0 < (bt159.1.length : Int) then (if 0 ≤ x8 then (if x8 < (x4.length : Int) then (if ((rd_T29 bt159.1 0).f0) = ((rd_T29 x4 x8).f0) then (if ((rd_T29 bt159.1 0).f1).toList = ((rd_T29 x4 x8).f1).toList then (majordomolaw11_LexerBetween.l0 k x0 x4 (wrap64 (x10 + (x9.size : Int))) (wrap64 (x8 + 1))) else (some false)) else (some false)) else (none)) else (none)) else (none)) else (some false)) else (some false)) else (some false)))) else (none)) else (none)) else (none))
end
def majordomolaw11_LexerBetween.f (k : Nat) (a0 : ByteArray) : Option (Bool) := (majordomolaw11_shown.f k).bind fun t148 => ((lexer_Lex.f k a0).bind fun bt149 => (if t148 = true then (majordomolaw11_LexerBetween.j0 k a0 t148 bt149.1 (bt149.2.2 != 0)) else (majordomolaw11_LexerBetween.j0 k a0 t148 bt149.1 true)))
theorem majordomolaw11_LexerBetween.mono_l : ∀ k, (∀ y0 y1 y2 y3, LeO (majordomolaw11_LexerBetween.j0 k y0 y1 y2 y3) (majordomolaw11_LexerBetween.j0 (k + 1) y0 y1 y2 y3)) ∧ (∀ y0 y1 y2 y3, LeO (majordomolaw11_LexerBetween.l0 k y0 y1 y2 y3) (majordomolaw11_LexerBetween.l0 (k + 1) y0 y1 y2 y3)) ∧ (∀ y0 y1 y2 y3 y4 y5 y6, LeO (majordomolaw11_LexerBetween.j2 k y0 y1 y2 y3 y4 y5 y6) (majordomolaw11_LexerBetween.j2 (k + 1) y0 y1 y2 y3 y4 y5 y6))
  | 0 => ⟨fun _ _ _ _ r h => by simp [majordomolaw11_LexerBetween.j0] at h, fun _ _ _ _ r h => by simp [majordomolaw11_LexerBetween.l0] at h, fun _ _ _ _ _ _ _ r h => by simp [majordomolaw11_LexerBetween.j2] at h⟩
  | k + 1 => by
    obtain ⟨ih0, ih1, ih2⟩ := majordomolaw11_LexerBetween.mono_l k
    refine ⟨?_, ?_, ?_⟩
    · intro y0 y1 y2 y3
      unfold majordomolaw11_LexerBetween.j0
      repeat' first
      | (with_reducible exact ih0 _ _ _ _)
      | (with_reducible exact ih1 _ _ _ _)
      | (with_reducible exact ih2 _ _ _ _ _ _ _)
      | (with_reducible exact lexer_Lex.mono _ _)
      | (with_reducible exact majordomolaw11_blank.mono _ _)
      | (with_reducible exact majordomolaw11_shown.mono _)
      | (with_reducible exact LeO.refl _)
      | (with_reducible exact LeO.none _)
      | (with_reducible refine LeO.ite ?_ ?_)
      | (with_reducible refine LeO.bind ?_ (fun _ => ?_))
      | exact ih0 _ _ _ _
      | exact ih1 _ _ _ _
      | exact ih2 _ _ _ _ _ _ _
      | exact lexer_Lex.mono _ _
      | exact majordomolaw11_blank.mono _ _
      | exact majordomolaw11_shown.mono _
      | exact LeO.none _
      | refine LeO.ite ?_ ?_
      | refine LeO.bind ?_ (fun _ => ?_)
    · intro y0 y1 y2 y3
      unfold majordomolaw11_LexerBetween.l0
      repeat' first
      | (with_reducible exact ih0 _ _ _ _)
      | (with_reducible exact ih1 _ _ _ _)
      | (with_reducible exact ih2 _ _ _ _ _ _ _)
      | (with_reducible exact lexer_Lex.mono _ _)
      | (with_reducible exact majordomolaw11_blank.mono _ _)
      | (with_reducible exact majordomolaw11_shown.mono _)
      | (with_reducible exact LeO.refl _)
      | (with_reducible exact LeO.none _)
      | (with_reducible refine LeO.ite ?_ ?_)
      | (with_reducible refine LeO.bind ?_ (fun _ => ?_))
      | exact ih0 _ _ _ _
      | exact ih1 _ _ _ _
      | exact ih2 _ _ _ _ _ _ _
      | exact lexer_Lex.mono _ _
      | exact majordomolaw11_blank.mono _ _
      | exact majordomolaw11_shown.mono _
      | exact LeO.none _
      | refine LeO.ite ?_ ?_
      | refine LeO.bind ?_ (fun _ => ?_)
    · intro y0 y1 y2 y3 y4 y5 y6
      unfold majordomolaw11_LexerBetween.j2
      repeat' first
      | (with_reducible exact ih0 _ _ _ _)
      | (with_reducible exact ih1 _ _ _ _)
      | (with_reducible exact ih2 _ _ _ _ _ _ _)
      | (with_reducible exact lexer_Lex.mono _ _)
      | (with_reducible exact majordomolaw11_blank.mono _ _)
      | (with_reducible exact majordomolaw11_shown.mono _)
      | (with_reducible exact LeO.refl _)
      | (with_reducible exact LeO.none _)
      | (with_reducible refine LeO.ite ?_ ?_)
      | (with_reducible refine LeO.bind ?_ (fun _ => ?_))
      | exact ih0 _ _ _ _
      | exact ih1 _ _ _ _
      | exact ih2 _ _ _ _ _ _ _
      | exact lexer_Lex.mono _ _
      | exact majordomolaw11_blank.mono _ _
      | exact majordomolaw11_shown.mono _
      | exact LeO.none _
      | refine LeO.ite ?_ ?_
      | refine LeO.bind ?_ (fun _ => ?_)
theorem majordomolaw11_LexerBetween.mono : ∀ a0 k, LeO (majordomolaw11_LexerBetween.f k a0) (majordomolaw11_LexerBetween.f (k + 1) a0) := by
  intro a0 k
  obtain ⟨ih0, ih1, ih2⟩ := majordomolaw11_LexerBetween.mono_l k
  unfold majordomolaw11_LexerBetween.f
  repeat' first
      | (with_reducible exact ih0 _ _ _ _)
      | (with_reducible exact ih1 _ _ _ _)
      | (with_reducible exact ih2 _ _ _ _ _ _ _)
      | (with_reducible exact lexer_Lex.mono _ _)
      | (with_reducible exact majordomolaw11_blank.mono _ _)
      | (with_reducible exact majordomolaw11_shown.mono _)
      | (with_reducible exact LeO.refl _)
      | (with_reducible exact LeO.none _)
      | (with_reducible refine LeO.ite ?_ ?_)
      | (with_reducible refine LeO.bind ?_ (fun _ => ?_))
      | exact ih0 _ _ _ _
      | exact ih1 _ _ _ _
      | exact ih2 _ _ _ _ _ _ _
      | exact lexer_Lex.mono _ _
      | exact majordomolaw11_blank.mono _ _
      | exact majordomolaw11_shown.mono _
      | exact LeO.none _
      | refine LeO.ite ?_ ?_
      | refine LeO.bind ?_ (fun _ => ?_)
set_option maxHeartbeats 8000000 in
set_option maxRecDepth 100000 in
theorem majordomolaw11_LexerBetween.calls (k : Nat) (a0 : ByteArray) (r : Bool) (w : World) (hamb : Amb w) (h : majordomolaw11_LexerBetween.f k a0 = some r) :
    Calls Tryd.prog 3 #[.string a0] w fun e w' => e = .returned (.bool r) ∧ Below w.heap.size w w' := by
  have hu29 := Tryd.underlying29
  have HAMB := Aside0.mk hamb
  clear hamb
  have HB := Aside0.mk (Below.refl w.heap.size w)
  have H : ((majordomolaw11_shown.f k).bind fun t148 => ((lexer_Lex.f k a0).bind fun bt149 => (if t148 = true then (majordomolaw11_LexerBetween.j0 k a0 t148 bt149.1 (bt149.2.2 != 0)) else (majordomolaw11_LexerBetween.j0 k a0 t148 bt149.1 true)))) = some r := h
  clear h
  replace H := Option.bind_eq_some_iff.mp H
  obtain ⟨t148, A20, H⟩ := H
  replace H : ((lexer_Lex.f k a0).bind fun bt149 => (if t148 = true then (majordomolaw11_LexerBetween.j0 k a0 t148 bt149.1 (bt149.2.2 != 0)) else (majordomolaw11_LexerBetween.j0 k a0 t148 bt149.1 true))) = some r := H
  have A2 := Aside0.mk A20
  clear A20
  replace H := Option.bind_eq_some_iff.mp H
  obtain ⟨⟨t149, t150, t151⟩, A30, H⟩ := H
  replace H : (if t148 = true then (majordomolaw11_LexerBetween.j0 k a0 t148 t149 (t151 != 0)) else (majordomolaw11_LexerBetween.j0 k a0 t148 t149 true)) = some r := H
  have A3 := Aside0.mk A30
  clear A30
  have HC4 := Aside0.mk H
  clear H
  go_enter Tryd.func3, Tryd.ntmps3
  go_upto_region 3 with (first | (go_at_call 8; (with_reducible refine (majordomolaw11_shown.calls k  t148 _ ?side1 A2.out).mono ?_); (case side1 => first | exact Amb.below HAMB.out (by repeat (first | (with_reducible first | exact HB.out | apply below_alloc | apply pw_below_drewN | apply below_drew1) | exact HB.out)) | exact Amb.drawn HAMB.out (by repeat (first | exact Drawn0.refl _ | apply Drawn0.step))); rintro e w5 ⟨rfl, hb⟩; have n0_ := Aside0.mk (below_step (by repeat (first | (with_reducible first | exact HB.out | apply below_alloc | apply pw_below_drewN | apply below_drew1) | exact HB.out)) hb); clear HB; have HB := n0_; clear n0_; (try clear hb); (try clear hb2); (try clear hk); (try clear hi)) | (go_at_call 9; (with_reducible refine (lexer_Lex.calls k a0 t149 t150 t151 _ ?side1 A3.out).mono ?_); (case side1 => first | exact Amb.below HAMB.out (by repeat (first | (with_reducible first | exact HB.out | apply below_alloc | apply pw_below_drewN | apply below_drew1) | exact HB.out)) | exact Amb.drawn HAMB.out (by repeat (first | exact Drawn0.refl _ | apply Drawn0.step))); rintro e w6 ⟨v152, rfl, ho0, hb⟩; have n0_ := Aside0.mk (Kd.R_lower ho0 (below_size (by repeat (first | (with_reducible first | exact HB.out | apply below_alloc | apply pw_below_drewN | apply below_drew1) | exact HB.out)))); have n1_ := Aside0.mk (below_step (by repeat (first | (with_reducible first | exact HB.out | apply below_alloc | apply pw_below_drewN | apply below_drew1) | exact HB.out)) hb); clear HB; have HO153 := n0_; have HB := n1_; clear n0_ n1_; (try clear hb); (try clear hb2); (try clear hk); (try clear hi); (try clear ho0)))
  repeat (go_quiet (first | (go_at_call 8; (with_reducible refine (majordomolaw11_shown.calls k  t148 _ ?side1 A2.out).mono ?_); (case side1 => first | exact Amb.below HAMB.out (by repeat (first | (with_reducible first | exact HB.out | apply below_alloc | apply pw_below_drewN | apply below_drew1) | exact HB.out)) | exact Amb.drawn HAMB.out (by repeat (first | exact Drawn0.refl _ | apply Drawn0.step))); rintro e w5 ⟨rfl, hb⟩; have n0_ := Aside0.mk (below_step (by repeat (first | (with_reducible first | exact HB.out | apply below_alloc | apply pw_below_drewN | apply below_drew1) | exact HB.out)) hb); clear HB; have HB := n0_; clear n0_; (try clear hb); (try clear hb2); (try clear hk); (try clear hi)) | (go_at_call 9; (with_reducible refine (lexer_Lex.calls k a0 t149 t150 t151 _ ?side1 A3.out).mono ?_); (case side1 => first | exact Amb.below HAMB.out (by repeat (first | (with_reducible first | exact HB.out | apply below_alloc | apply pw_below_drewN | apply below_drew1) | exact HB.out)) | exact Amb.drawn HAMB.out (by repeat (first | exact Drawn0.refl _ | apply Drawn0.step))); rintro e w6 ⟨v152, rfl, ho0, hb⟩; have n0_ := Aside0.mk (Kd.R_lower ho0 (below_size (by repeat (first | (with_reducible first | exact HB.out | apply below_alloc | apply pw_below_drewN | apply below_drew1) | exact HB.out)))); have n1_ := Aside0.mk (below_step (by repeat (first | (with_reducible first | exact HB.out | apply below_alloc | apply pw_below_drewN | apply below_drew1) | exact HB.out)) hb); clear HB; have HO153 := n0_; have HB := n1_; clear n0_ n1_; (try clear hb); (try clear hb2); (try clear hk); (try clear hi); (try clear ho0))); go_upto_region 3 with (first | (go_at_call 8; (with_reducible refine (majordomolaw11_shown.calls k  t148 _ ?side1 A2.out).mono ?_); (case side1 => first | exact Amb.below HAMB.out (by repeat (first | (with_reducible first | exact HB.out | apply below_alloc | apply pw_below_drewN | apply below_drew1) | exact HB.out)) | exact Amb.drawn HAMB.out (by repeat (first | exact Drawn0.refl _ | apply Drawn0.step))); rintro e w5 ⟨rfl, hb⟩; have n0_ := Aside0.mk (below_step (by repeat (first | (with_reducible first | exact HB.out | apply below_alloc | apply pw_below_drewN | apply below_drew1) | exact HB.out)) hb); clear HB; have HB := n0_; clear n0_; (try clear hb); (try clear hb2); (try clear hk); (try clear hi)) | (go_at_call 9; (with_reducible refine (lexer_Lex.calls k a0 t149 t150 t151 _ ?side1 A3.out).mono ?_); (case side1 => first | exact Amb.below HAMB.out (by repeat (first | (with_reducible first | exact HB.out | apply below_alloc | apply pw_below_drewN | apply below_drew1) | exact HB.out)) | exact Amb.drawn HAMB.out (by repeat (first | exact Drawn0.refl _ | apply Drawn0.step))); rintro e w6 ⟨v152, rfl, ho0, hb⟩; have n0_ := Aside0.mk (Kd.R_lower ho0 (below_size (by repeat (first | (with_reducible first | exact HB.out | apply below_alloc | apply pw_below_drewN | apply below_drew1) | exact HB.out)))); have n1_ := Aside0.mk (below_step (by repeat (first | (with_reducible first | exact HB.out | apply below_alloc | apply pw_below_drewN | apply below_drew1) | exact HB.out)) hb); clear HB; have HO153 := n0_; have HB := n1_; clear n0_ n1_; (try clear hb); (try clear hb2); (try clear hk); (try clear hi); (try clear ho0))))
  (try simp only [Act.put, List.setIfInBounds_toArray, List.set_cons_zero, List.set_cons_succ])
  go_cut [27] (fun v27 wc => ∃ (kq : Nat) (x27_3 : Bool), v27 = .bool x27_3 ∧ Aside0 (majordomolaw11_LexerBetween.j0 kq a0 t148 t149 x27_3 = some r) ∧ Aside0 (kq ≤ k) ∧ Aside0 (Kd.R k29 29 wc w.heap.size (fun _ => True) v152 t149) ∧ Aside0 (Below w.heap.size w wc))
  case first =>
    have H := HC4.out
    clear HC4
    by_cases c7 : t148 = true
    · subst c7
      have H1 : (majordomolaw11_LexerBetween.j0 k a0 true t149 (t151 != 0)) = some r := by rw [if_pos rfl] at H; exact H
      clear H
      have H := H1
      clear H1
      have H' := Aside0.mk H
      clear H
      go_wp2
      repeat (go_quiet (fail); try go_wp2)
      go_meet
      case rel => exact ⟨_, ((t151 != 0)), (by first | rfl | (simp; done) | (simp [*]; done)), H', ⟨by first | omega | exact Nat.le_refl _⟩, ⟨by (with_reducible repeat (first | apply Kd.R_alloc | apply Kd.R_drewN | apply Kd.R_drew)); exact HO153.out⟩, ⟨by repeat (first | (with_reducible first | exact HB.out | apply below_alloc | apply pw_below_drewN | apply below_drew1) | exact HB.out)⟩⟩
    · replace c7 := Bool.eq_false_iff.mpr c7
      subst c7
      have H1 : (majordomolaw11_LexerBetween.j0 k a0 false t149 true) = some r := by rw [if_neg (show ¬ (false = true) by decide)] at H; exact H
      clear H
      have H := H1
      clear H1
      have H' := Aside0.mk H
      clear H
      go_wp2
      repeat (go_quiet (fail); try go_wp2)
      go_meet
      case rel => exact ⟨_, (true), (by first | rfl | (simp; done) | (simp [*]; done)), H', ⟨by first | omega | exact Nat.le_refl _⟩, ⟨by (with_reducible repeat (first | apply Kd.R_alloc | apply Kd.R_drewN | apply Kd.R_drew)); exact HO153.out⟩, ⟨by repeat (first | (with_reducible first | exact HB.out | apply below_alloc | apply pw_below_drewN | apply below_drew1) | exact HB.out)⟩⟩
  case rest =>
    clear HC4
    try clear p2
    try clear c3
    try clear c7
    obtain ⟨kq, x27_3, rfl, HA, HJ3, HO_4, HB⟩ := hcut
    cases kq with
    | zero => exact absurd HA.out (by simp [majordomolaw11_LexerBetween.j0])
    | succ kj3 =>
      have H := HA.out
      clear HA
      simp only [majordomolaw11_LexerBetween.j0] at H
      by_cases c8 : x27_3 = true
      · subst c8
        have H1 : (if t148 = true then (some ((t149.length : Int) == 0)) else (some false)) = some r := by rw [if_pos rfl] at H; exact H
        clear H
        have H := H1
        clear H1
        by_cases c9 : t148 = true
        · subst c9
          have H1 : (some ((t149.length : Int) == 0)) = some r := by rw [if_pos rfl] at H; exact H
          clear H
          have H := H1
          clear H1
          obtain rfl := Option.some.inj H
          obtain ⟨Ao10, co10, eo10⟩ := Kd.R_slice HO_4.out
          subst eo10
          go_wp2
          repeat (go_quiet (fail); try go_wp2)
          go_ret
          exact ⟨by first | rfl | (simp [errW_none, errW_some] <;> rfl) | (simp [*, errW_none, errW_some] <;> rfl), by repeat (first | (with_reducible first | exact HB.out | apply below_alloc | apply pw_below_drewN | apply below_drew1) | exact HB.out)⟩
        · replace c9 := Bool.eq_false_iff.mpr c9
          subst c9
          have H1 : (some false) = some r := by rw [if_neg (show ¬ (false = true) by decide)] at H; exact H
          clear H
          have H := H1
          clear H1
          obtain rfl := Option.some.inj H
          go_wp2
          repeat (go_quiet (fail); try go_wp2)
          go_ret
          exact ⟨by first | rfl | (simp [errW_none, errW_some] <;> rfl) | (simp [*, errW_none, errW_some] <;> rfl), by repeat (first | (with_reducible first | exact HB.out | apply below_alloc | apply pw_below_drewN | apply below_drew1) | exact HB.out)⟩
      · replace c8 := Bool.eq_false_iff.mpr c8
        subst c8
        have H1 : (majordomolaw11_LexerBetween.l0 kj3 a0 t149 0 0) = some r := by rw [if_neg (show ¬ (false = true) by decide)] at H; exact H
        clear H
        have H := H1
        clear H1
        have H' := Aside0.mk H
        clear H
        go_wp2
        repeat (go_quiet (fail); try go_wp2)
        go_loopg [7, 8] kj3 (fun kq v7 v8 w' => ∃ (x7_2 : Int) (x8_2 : Int), v7 = .int .i64 x7_2 ∧ v8 = .int .i64 x8_2 ∧ Aside0 (majordomolaw11_LexerBetween.l0 kq a0 t149 x7_2 x8_2 = some r) ∧ Aside0 (kq ≤ kj3) ∧ Aside0 (Kd.R k29 29 w' w.heap.size (fun _ => True) v152 t149) ∧ Aside0 (Below w.heap.size w w'))
        case atStart => exact ⟨(0), (0), (by first | rfl | (simp; done) | (simp [*]; done)), (by first | rfl | (simp; done) | (simp [*]; done)), H', ⟨Nat.le_refl _⟩, ⟨by (with_reducible repeat (first | apply Kd.R_alloc | apply Kd.R_drewN | apply Kd.R_drew)); exact HO_4.out⟩, ⟨by repeat (first | (with_reducible first | exact HB.out | apply below_alloc | apply pw_below_drewN | apply below_drew1) | exact HB.out)⟩⟩
        case round =>
          clear H'
          try clear p2
          try clear c3
          try clear c7
          try clear c8
          try clear c9
          try clear p2
          obtain ⟨x7_2, x8_2, rfl, rfl, HA, HK2, HO_4, HB⟩ := hrel
          cases gk with
          | zero => exact absurd HA.out (by simp [majordomolaw11_LexerBetween.l0])
          | succ k2 =>
            have H := HA.out
            clear HA
            simp only [majordomolaw11_LexerBetween.l0] at H
            by_cases c11 : x8_2 < (t149.length : Int)
            · rw [if_pos c11] at H
              have c11b0 : decide (x8_2 < (t149.length : Int)) = true := decide_eq_true c11
              clear c11
              by_cases c12 : 0 ≤ x8_2
              · rw [if_pos c12] at H
                have c12b0 : decide (0 ≤ x8_2) = true := decide_eq_true c12
                clear c12
                replace H := Option.bind_eq_some_iff.mp H
                obtain ⟨t156, A130, H⟩ := H
                replace H : (if ((rd_T29 t149 x8_2).f2) < x7_2 then (majordomolaw11_LexerBetween.j2 k2 a0 t149 x7_2 x8_2 t156 ((rd_T29 t149 x8_2).f2) true) else (if (wrap64 (((rd_T29 t149 x8_2).f2) + (t156.size : Int))) > (a0.size : Int) then (majordomolaw11_LexerBetween.j2 k2 a0 t149 x7_2 x8_2 t156 ((rd_T29 t149 x8_2).f2) true) else (if 0 ≤ ((rd_T29 t149 x8_2).f2) then (if ((rd_T29 t149 x8_2).f2) ≤ (wrap64 (((rd_T29 t149 x8_2).f2) + (t156.size : Int))) then (if (wrap64 (((rd_T29 t149 x8_2).f2) + (t156.size : Int))) ≤ (a0.size : Int) then (majordomolaw11_LexerBetween.j2 k2 a0 t149 x7_2 x8_2 t156 ((rd_T29 t149 x8_2).f2) ((a0.extract (((rd_T29 t149 x8_2).f2) : Int).toNat ((wrap64 (((rd_T29 t149 x8_2).f2) + (t156.size : Int))) : Int).toNat).toList != t156.toList)) else (none)) else (none)) else (none)))) = some r := H
                have A13 := Aside0.mk A130
                clear A130
                have HC14 := Aside0.mk H
                clear H
                obtain ⟨Ao15, co15, eo15⟩ := Kd.R_slice HO_4.out
                subst eo15
                have p155 : 0 ≤ (x8_2 : Int) := of_decide_eq_true (by first | (with_reducible assumption) | assumption)
                have q155 : x8_2 < (t149.length : Int) := of_decide_eq_true (by first | (with_reducible assumption) | assumption)
                obtain ⟨ad155, e155, hx155_0, hx155_1, hx155_2⟩ := at_T29 (Kd.R_reads' HO_4.out).2.2 x8_2 p155 q155
                cases e155
                replace p155 := eq_true p155
                replace q155 := eq_true q155
                go_upto_region 11 with (first | (go_at_call 10; (with_reducible refine (majordomoref11_Text.calls ((rd_T29 t149 x8_2).f0) ((rd_T29 t149 x8_2).f1) ((rd_T29 t149 x8_2).f2) t156 _ A13.out).mono ?_); rintro e w16 ⟨rfl, hb⟩; have n0_ := Aside0.mk (Kd.R_below (by (with_reducible repeat (first | apply Kd.R_alloc | apply Kd.R_drewN | apply Kd.R_drew)); exact HO_4.out) hb); have n1_ := Aside0.mk (below_step (by repeat (first | (with_reducible first | exact HB.out | apply below_alloc | apply pw_below_drewN | apply below_drew1) | exact HB.out)) hb); clear HO_4; clear HB; have HO_4 := n0_; have HB := n1_; clear n0_ n1_; (try clear hb); (try clear hb2); (try clear hk); (try clear hi); have p157 : 0 ≤ (x8_2 : Int) := of_decide_eq_true (by first | (with_reducible assumption) | assumption); have q157 : x8_2 < (t149.length : Int) := of_decide_eq_true (by first | (with_reducible assumption) | assumption); obtain ⟨ad157, e157, hx157_0, hx157_1, hx157_2⟩ := at_T29 (Kd.R_reads' HO_4.out).2.2 x8_2 p157 q157; obtain rfl : ad155 = ad157 := (by injection e157); replace p157 := eq_true p157; replace q157 := eq_true q157))
                repeat (go_quiet (first | (go_at_call 10; (with_reducible refine (majordomoref11_Text.calls ((rd_T29 t149 x8_2).f0) ((rd_T29 t149 x8_2).f1) ((rd_T29 t149 x8_2).f2) t156 _ A13.out).mono ?_); rintro e w16 ⟨rfl, hb⟩; have n0_ := Aside0.mk (Kd.R_below (by (with_reducible repeat (first | apply Kd.R_alloc | apply Kd.R_drewN | apply Kd.R_drew)); exact HO_4.out) hb); have n1_ := Aside0.mk (below_step (by repeat (first | (with_reducible first | exact HB.out | apply below_alloc | apply pw_below_drewN | apply below_drew1) | exact HB.out)) hb); clear HO_4; clear HB; have HO_4 := n0_; have HB := n1_; clear n0_ n1_; (try clear hb); (try clear hb2); (try clear hk); (try clear hi); have p157 : 0 ≤ (x8_2 : Int) := of_decide_eq_true (by first | (with_reducible assumption) | assumption); have q157 : x8_2 < (t149.length : Int) := of_decide_eq_true (by first | (with_reducible assumption) | assumption); obtain ⟨ad157, e157, hx157_0, hx157_1, hx157_2⟩ := at_T29 (Kd.R_reads' HO_4.out).2.2 x8_2 p157 q157; obtain rfl : ad155 = ad157 := (by injection e157); replace p157 := eq_true p157; replace q157 := eq_true q157)); go_upto_region 11 with (first | (go_at_call 10; (with_reducible refine (majordomoref11_Text.calls ((rd_T29 t149 x8_2).f0) ((rd_T29 t149 x8_2).f1) ((rd_T29 t149 x8_2).f2) t156 _ A13.out).mono ?_); rintro e w16 ⟨rfl, hb⟩; have n0_ := Aside0.mk (Kd.R_below (by (with_reducible repeat (first | apply Kd.R_alloc | apply Kd.R_drewN | apply Kd.R_drew)); exact HO_4.out) hb); have n1_ := Aside0.mk (below_step (by repeat (first | (with_reducible first | exact HB.out | apply below_alloc | apply pw_below_drewN | apply below_drew1) | exact HB.out)) hb); clear HO_4; clear HB; have HO_4 := n0_; have HB := n1_; clear n0_ n1_; (try clear hb); (try clear hb2); (try clear hk); (try clear hi); have p157 : 0 ≤ (x8_2 : Int) := of_decide_eq_true (by first | (with_reducible assumption) | assumption); have q157 : x8_2 < (t149.length : Int) := of_decide_eq_true (by first | (with_reducible assumption) | assumption); obtain ⟨ad157, e157, hx157_0, hx157_1, hx157_2⟩ := at_T29 (Kd.R_reads' HO_4.out).2.2 x8_2 p157 q157; obtain rfl : ad155 = ad157 := (by injection e157); replace p157 := eq_true p157; replace q157 := eq_true q157)))
                (try simp only [Act.put, List.setIfInBounds_toArray, List.set_cons_zero, List.set_cons_succ])
                go_cut [72] (fun v72 wc => ∃ (kq : Nat) (x72_13 : Bool), v72 = .bool x72_13 ∧ Aside0 (majordomolaw11_LexerBetween.j2 kq a0 t149 x7_2 x8_2 t156 ((rd_T29 t149 x8_2).f2) x72_13 = some r) ∧ Aside0 (kq ≤ k2) ∧ Aside0 (Kd.R k29 29 wc w.heap.size (fun _ => True) (.slice (some ad155) t149.length co15) t149) ∧ Aside0 (Below w.heap.size w wc))
                case first =>
                  have H := HC14.out
                  clear HC14
                  by_cases c17 : ((rd_T29 t149 x8_2).f2) < x7_2
                  · rw [if_pos c17] at H
                    have c17b0 : decide (((rd_T29 t149 x8_2).f2) < x7_2) = true := decide_eq_true c17
                    clear c17
                    (first | rw [c17b0] | (simp only [i64_w, i32_w]; rw [c17b0]) | skip)
                    have H' := Aside0.mk H
                    clear H
                    go_wp2
                    repeat (go_quiet (fail); try go_wp2)
                    go_meet
                    case rel => exact ⟨_, (true), (by first | rfl | (simp; done) | (simp [*]; done)), H', ⟨by have := HJ3.out; have := HK2.out; first | omega | exact Nat.le_refl _⟩, ⟨by (with_reducible repeat (first | apply Kd.R_alloc | apply Kd.R_drewN | apply Kd.R_drew)); exact HO_4.out⟩, ⟨by repeat (first | (with_reducible first | exact HB.out | apply below_alloc | apply pw_below_drewN | apply below_drew1) | exact HB.out)⟩⟩
                  · rw [if_neg c17] at H
                    have c17b0 : decide (((rd_T29 t149 x8_2).f2) < x7_2) = false := decide_eq_false c17
                    clear c17
                    (first | rw [c17b0] | (simp only [i64_w, i32_w]; rw [c17b0]) | skip)
                    by_cases c18 : (wrap64 (((rd_T29 t149 x8_2).f2) + (t156.size : Int))) > (a0.size : Int)
                    · rw [if_pos c18] at H
                      have c18b0 : decide ((a0.size : Int) < (wrap64 (((rd_T29 t149 x8_2).f2) + (t156.size : Int)))) = true := decide_eq_true c18
                      clear c18
                      have H' := Aside0.mk H
                      clear H
                      go_wp2
                      repeat (go_quiet (fail); try go_wp2)
                      go_meet
                      case rel => exact ⟨_, (true), (by first | rfl | (simp; done) | (simp [*]; done)), H', ⟨by have := HJ3.out; have := HK2.out; first | omega | exact Nat.le_refl _⟩, ⟨by (with_reducible repeat (first | apply Kd.R_alloc | apply Kd.R_drewN | apply Kd.R_drew)); exact HO_4.out⟩, ⟨by repeat (first | (with_reducible first | exact HB.out | apply below_alloc | apply pw_below_drewN | apply below_drew1) | exact HB.out)⟩⟩
                    · rw [if_neg c18] at H
                      have c18b0 : decide ((a0.size : Int) < (wrap64 (((rd_T29 t149 x8_2).f2) + (t156.size : Int)))) = false := decide_eq_false c18
                      clear c18
                      by_cases c19 : 0 ≤ ((rd_T29 t149 x8_2).f2)
                      · rw [if_pos c19] at H
                        have c19b0 := eq_true c19
                        have c19b1 : decide (0 ≤ ((rd_T29 t149 x8_2).f2)) = true := decide_eq_true c19
                        clear c19
                        by_cases c20 : ((rd_T29 t149 x8_2).f2) ≤ (wrap64 (((rd_T29 t149 x8_2).f2) + (t156.size : Int)))
                        · rw [if_pos c20] at H
                          have c20b0 := eq_true c20
                          have c20b1 : decide (((rd_T29 t149 x8_2).f2) ≤ (wrap64 (((rd_T29 t149 x8_2).f2) + (t156.size : Int)))) = true := decide_eq_true c20
                          by_cases c21 : (wrap64 (((rd_T29 t149 x8_2).f2) + (t156.size : Int))) ≤ (a0.size : Int)
                          · rw [if_pos c21] at H
                            have c21b0 := eq_true c21
                            have c21b1 : decide ((wrap64 (((rd_T29 t149 x8_2).f2) + (t156.size : Int))) ≤ (a0.size : Int)) = true := decide_eq_true c21
                            have H' := Aside0.mk H
                            clear H
                            go_wp2
                            repeat (go_quiet (fail); try go_wp2)
                            go_meet
                            case rel => exact ⟨_, (((a0.extract (((rd_T29 t149 x8_2).f2) : Int).toNat ((wrap64 (((rd_T29 t149 x8_2).f2) + (t156.size : Int))) : Int).toNat).toList != t156.toList)), (by first | rfl | (simp; done) | (simp [*]; done)), H', ⟨by have := HJ3.out; have := HK2.out; first | omega | exact Nat.le_refl _⟩, ⟨by (with_reducible repeat (first | apply Kd.R_alloc | apply Kd.R_drewN | apply Kd.R_drew)); exact HO_4.out⟩, ⟨by repeat (first | (with_reducible first | exact HB.out | apply below_alloc | apply pw_below_drewN | apply below_drew1) | exact HB.out)⟩⟩
                          · rw [if_neg c21] at H
                            exact absurd H (by simp)
                        · rw [if_neg c20] at H
                          exact absurd H (by simp)
                      · rw [if_neg c19] at H
                        exact absurd H (by simp)
                case rest =>
                  clear HC14
                  try clear c1
                  try clear p1
                  try clear q1
                  try clear hx1
                  try clear c2
                  try clear p2
                  try clear c3
                  try clear p6
                  try clear c7
                  try clear c8
                  try clear c9
                  try clear c11
                  try clear c11b0
                  try clear c12
                  try clear c12b0
                  try clear p15
                  try clear q15
                  try clear hx15
                  try clear c17
                  try clear c17b0
                  try clear c18
                  try clear c18b0
                  try clear c19
                  try clear c19b0
                  try clear c19b1
                  try clear c20
                  try clear c20b0
                  try clear c20b1
                  try clear c21
                  try clear c21b0
                  try clear c21b1
                  try clear hx155_0
                  try clear hx155_1
                  try clear hx155_2
                  try clear hx157_0
                  try clear hx157_1
                  try clear hx157_2
                  try clear p155
                  try clear p157
                  try clear p2
                  try clear q155
                  try clear q157
                  obtain ⟨kq, x72_13, rfl, HA, HJ13, HO_4, HB⟩ := hcut
                  cases kq with
                  | zero => exact absurd HA.out (by simp [majordomolaw11_LexerBetween.j2])
                  | succ kj13 =>
                    have H := HA.out
                    clear HA
                    simp only [majordomolaw11_LexerBetween.j2] at H
                    by_cases c22 : x72_13 = true
                    · subst c22
                      have H1 : (some false) = some r := by rw [if_pos rfl] at H; exact H
                      clear H
                      have H := H1
                      clear H1
                      obtain rfl := Option.some.inj H
                      go_wp2
                      repeat (go_quiet (fail); try go_wp2)
                      go_ret
                      exact ⟨by first | rfl | (simp [errW_none, errW_some] <;> rfl) | (simp [*, errW_none, errW_some] <;> rfl), by repeat (first | (with_reducible first | exact HB.out | apply below_alloc | apply pw_below_drewN | apply below_drew1) | exact HB.out)⟩
                    · replace c22 := Bool.eq_false_iff.mpr c22
                      subst c22
                      have H1 : (if 0 ≤ x7_2 then (if x7_2 ≤ ((rd_T29 t149 x8_2).f2) then (if ((rd_T29 t149 x8_2).f2) ≤ (a0.size : Int) then ((majordomolaw11_blank.f kj13 (a0.extract (x7_2 : Int).toNat (((rd_T29 t149 x8_2).f2) : Int).toNat)).bind fun t158 => ((lexer_Lex.f kj13 t156).bind fun bt159 => (if t158 = true then (if bt159.2.2 = 0 then (if (bt159.1.length : Int) = 1 then (if 0 < (bt159.1.length : Int) then (if 0 ≤ x8_2 then (if x8_2 < (t149.length : Int) then (if ((rd_T29 bt159.1 0).f0) = ((rd_T29 t149 x8_2).f0) then (if ((rd_T29 bt159.1 0).f1).toList = ((rd_T29 t149 x8_2).f1).toList then (majordomolaw11_LexerBetween.l0 kj13 a0 t149 (wrap64 (((rd_T29 t149 x8_2).f2) + (t156.size : Int))) (wrap64 (x8_2 + 1))) else (some false)) else (some false)) else (none)) else (none)) else (none)) else (some false)) else (some false)) else (some false)))) else (none)) else (none)) else (none)) = some r := by rw [if_neg (show ¬ (false = true) by decide)] at H; exact H
                      clear H
                      have H := H1
                      clear H1
                      by_cases c23 : 0 ≤ x7_2
                      · rw [if_pos c23] at H
                        have c23b0 := eq_true c23
                        have c23b1 : decide (0 ≤ x7_2) = true := decide_eq_true c23
                        clear c23
                        by_cases c24 : x7_2 ≤ ((rd_T29 t149 x8_2).f2)
                        · rw [if_pos c24] at H
                          have c24b0 := eq_true c24
                          have c24b1 : decide (x7_2 ≤ ((rd_T29 t149 x8_2).f2)) = true := decide_eq_true c24
                          clear c24
                          by_cases c25 : ((rd_T29 t149 x8_2).f2) ≤ (a0.size : Int)
                          · rw [if_pos c25] at H
                            have c25b0 := eq_true c25
                            have c25b1 : decide (((rd_T29 t149 x8_2).f2) ≤ (a0.size : Int)) = true := decide_eq_true c25
                            clear c25
                            replace H := Option.bind_eq_some_iff.mp H
                            obtain ⟨t158, A260, H⟩ := H
                            replace H : ((lexer_Lex.f kj13 t156).bind fun bt159 => (if t158 = true then (if bt159.2.2 = 0 then (if (bt159.1.length : Int) = 1 then (if 0 < (bt159.1.length : Int) then (if 0 ≤ x8_2 then (if x8_2 < (t149.length : Int) then (if ((rd_T29 bt159.1 0).f0) = ((rd_T29 t149 x8_2).f0) then (if ((rd_T29 bt159.1 0).f1).toList = ((rd_T29 t149 x8_2).f1).toList then (majordomolaw11_LexerBetween.l0 kj13 a0 t149 (wrap64 (((rd_T29 t149 x8_2).f2) + (t156.size : Int))) (wrap64 (x8_2 + 1))) else (some false)) else (some false)) else (none)) else (none)) else (none)) else (some false)) else (some false)) else (some false))) = some r := H
                            have A26 := Aside0.mk A260
                            clear A260
                            replace H := Option.bind_eq_some_iff.mp H
                            obtain ⟨⟨t159, t160, t161⟩, A270, H⟩ := H
                            replace H : (if t158 = true then (if t161 = 0 then (if (t159.length : Int) = 1 then (if 0 < (t159.length : Int) then (if 0 ≤ x8_2 then (if x8_2 < (t149.length : Int) then (if ((rd_T29 t159 0).f0) = ((rd_T29 t149 x8_2).f0) then (if ((rd_T29 t159 0).f1).toList = ((rd_T29 t149 x8_2).f1).toList then (majordomolaw11_LexerBetween.l0 kj13 a0 t149 (wrap64 (((rd_T29 t149 x8_2).f2) + (t156.size : Int))) (wrap64 (x8_2 + 1))) else (some false)) else (some false)) else (none)) else (none)) else (none)) else (some false)) else (some false)) else (some false)) = some r := H
                            have A27 := Aside0.mk A270
                            clear A270
                            by_cases c28 : t158 = true
                            · subst c28
                              have H1 : (if t161 = 0 then (if (t159.length : Int) = 1 then (if 0 < (t159.length : Int) then (if 0 ≤ x8_2 then (if x8_2 < (t149.length : Int) then (if ((rd_T29 t159 0).f0) = ((rd_T29 t149 x8_2).f0) then (if ((rd_T29 t159 0).f1).toList = ((rd_T29 t149 x8_2).f1).toList then (majordomolaw11_LexerBetween.l0 kj13 a0 t149 (wrap64 (((rd_T29 t149 x8_2).f2) + (t156.size : Int))) (wrap64 (x8_2 + 1))) else (some false)) else (some false)) else (none)) else (none)) else (none)) else (some false)) else (some false)) = some r := by rw [if_pos rfl] at H; exact H
                              clear H
                              have H := H1
                              clear H1
                              by_cases c29 : t161 = 0
                              · rw [if_pos c29] at H
                                have c29b0 : (t161 == 0) = true := beq_iff_eq.mpr c29
                                have c29b1 : (t161 != 0) = false := bne_eq_false_iff_eq.mpr c29
                                clear c29
                                by_cases c30 : (t159.length : Int) = 1
                                · rw [if_pos c30] at H
                                  have c30b0 : ((t159.length : Int) == 1) = true := beq_iff_eq.mpr c30
                                  have c30b1 : ((t159.length : Int) != 1) = false := bne_eq_false_iff_eq.mpr c30
                                  clear c30
                                  by_cases c31 : 0 < (t159.length : Int)
                                  · rw [if_pos c31] at H
                                    have c31b0 : decide (0 < (t159.length : Int)) = true := decide_eq_true c31
                                    have c31b1 : decide (0 < t159.length) = true := decide_eq_true (by omega)
                                    clear c31
                                    by_cases c32 : 0 ≤ x8_2
                                    · rw [if_pos c32] at H
                                      have c32b0 : decide (0 ≤ x8_2) = true := decide_eq_true c32
                                      clear c32
                                      by_cases c33 : x8_2 < (t149.length : Int)
                                      · rw [if_pos c33] at H
                                        have c33b0 : decide (x8_2 < (t149.length : Int)) = true := decide_eq_true c33
                                        clear c33
                                        by_cases c34 : ((rd_T29 t159 0).f0) = ((rd_T29 t149 x8_2).f0)
                                        · rw [if_pos c34] at H
                                          have c34b0 : (((rd_T29 t159 0).f0) == ((rd_T29 t149 x8_2).f0)) = true := beq_iff_eq.mpr c34
                                          have c34b1 : (((rd_T29 t159 0).f0) != ((rd_T29 t149 x8_2).f0)) = false := bne_eq_false_iff_eq.mpr c34
                                          clear c34
                                          by_cases c35 : ((rd_T29 t159 0).f1).toList = ((rd_T29 t149 x8_2).f1).toList
                                          · rw [if_pos c35] at H
                                            have c35b0 : (((rd_T29 t159 0).f1).toList == ((rd_T29 t149 x8_2).f1).toList) = true := beq_iff_eq.mpr c35
                                            have c35b1 : (((rd_T29 t159 0).f1).toList != ((rd_T29 t149 x8_2).f1).toList) = false := bne_eq_false_iff_eq.mpr c35
                                            clear c35
                                            have H' := Aside0.mk H
                                            clear H
                                            go_wp2_with (first | (go_at_call 11; (with_reducible refine (majordomolaw11_blank.calls kj13 (a0.extract (x7_2 : Int).toNat (((rd_T29 t149 x8_2).f2) : Int).toNat) true _ A26.out).mono ?_); rintro e w' ⟨rfl, ⟨nd, rfl⟩⟩; (try first | exact ⟨rfl, _, World.drewN_drewN _ _ _⟩ | exact ⟨rfl, _, Eq.trans (World.drewN_drewN _ _ _) (congrArg (World.drewN _) (Nat.add_assoc _ _ _))⟩)) | (go_at_call 9; (with_reducible refine (lexer_Lex.calls kj13 t156 t159 t160 t161 _ ?side1 A27.out).mono ?_); (case side1 => first | exact Amb.below HAMB.out (by repeat (first | (with_reducible first | exact HB.out | apply below_alloc | apply pw_below_drewN | apply below_drew1) | exact HB.out)) | exact Amb.drawn HAMB.out (by repeat (first | exact Drawn0.refl _ | apply Drawn0.step))); rintro e w36 ⟨v162, rfl, ho0, hb⟩; have n0_ := Aside0.mk (Kd.R_elder' (by (with_reducible repeat (first | apply Kd.R_alloc | apply Kd.R_drewN | apply Kd.R_drew)); exact HO_4.out) (Kd.R_base ho0) hb); have n1_ := Aside0.mk (Kd.R_lower (Kd.R_new' ho0 (Kd.R_lt (by (with_reducible repeat (first | apply Kd.R_alloc | apply Kd.R_drewN | apply Kd.R_drew)); exact HO_4.out))) (below_size (by repeat (first | (with_reducible first | exact HB.out | apply below_alloc | apply pw_below_drewN | apply below_drew1) | exact HB.out)))); have n2_ := Aside0.mk (below_step (by repeat (first | (with_reducible first | exact HB.out | apply below_alloc | apply pw_below_drewN | apply below_drew1) | exact HB.out)) hb); clear HO_4; clear HB; have HO_4 := n0_; have HO163 := n1_; have HB := n2_; clear n0_ n1_ n2_; (try clear hb); (try clear hb2); (try clear hk); (try clear hi); (try clear ho0); obtain ⟨Ao37, co37, eo37⟩ := Kd.R_slice HO163.out; subst eo37; have p164 : 0 ≤ (0 : Int) := (by omega); have q164 : 0 < (t159.length : Int) := of_decide_eq_true (by first | (with_reducible assumption) | assumption); obtain ⟨ad164, e164, hx164_0, hx164_1, hx164_2⟩ := at_T29 (Kd.R_reads' HO163.out).2.2 0 p164 q164; cases e164; have qi164 : (0 < t159.length) = True := eq_true (by omega); (try rw [show ((0 : Int)).toNat = 0 from rfl] at hx164_0); (try rw [show 0 * 3 = 0 from rfl] at hx164_0); (try rw [Addr.add_zero'] at hx164_0); (try rw [show ((0 : Int)).toNat = 0 from rfl] at hx164_1); (try rw [show 0 * 3 = 0 from rfl] at hx164_1); (try rw [Addr.add_zero'] at hx164_1); (try rw [show ((0 : Int)).toNat = 0 from rfl] at hx164_2); (try rw [show 0 * 3 = 0 from rfl] at hx164_2); (try rw [Addr.add_zero'] at hx164_2); replace p164 := eq_true p164; replace q164 := eq_true q164; have p165 : 0 ≤ (x8_2 : Int) := of_decide_eq_true (by first | (with_reducible assumption) | assumption); have q165 : x8_2 < (t149.length : Int) := of_decide_eq_true (by first | (with_reducible assumption) | assumption); obtain ⟨ad165, e165, hx165_0, hx165_1, hx165_2⟩ := at_T29 (Kd.R_reads' HO_4.out).2.2 x8_2 p165 q165; obtain rfl : ad155 = ad165 := (by injection e165); replace p165 := eq_true p165; replace q165 := eq_true q165; have p166 : 0 ≤ (0 : Int) := (by omega); have q166 : 0 < (t159.length : Int) := of_decide_eq_true (by first | (with_reducible assumption) | assumption); obtain ⟨ad166, e166, hx166_0, hx166_1, hx166_2⟩ := at_T29 (Kd.R_reads' HO163.out).2.2 0 p166 q166; obtain rfl : ad164 = ad166 := (by injection e166); have qi166 : (0 < t159.length) = True := eq_true (by omega); (try rw [show ((0 : Int)).toNat = 0 from rfl] at hx166_0); (try rw [show 0 * 3 = 0 from rfl] at hx166_0); (try rw [Addr.add_zero'] at hx166_0); (try rw [show ((0 : Int)).toNat = 0 from rfl] at hx166_1); (try rw [show 0 * 3 = 0 from rfl] at hx166_1); (try rw [Addr.add_zero'] at hx166_1); (try rw [show ((0 : Int)).toNat = 0 from rfl] at hx166_2); (try rw [show 0 * 3 = 0 from rfl] at hx166_2); (try rw [Addr.add_zero'] at hx166_2); replace p166 := eq_true p166; replace q166 := eq_true q166; have p167 : 0 ≤ (x8_2 : Int) := of_decide_eq_true (by first | (with_reducible assumption) | assumption); have q167 : x8_2 < (t149.length : Int) := of_decide_eq_true (by first | (with_reducible assumption) | assumption); obtain ⟨ad167, e167, hx167_0, hx167_1, hx167_2⟩ := at_T29 (Kd.R_reads' HO_4.out).2.2 x8_2 p167 q167; obtain rfl : ad155 = ad167 := (by injection e167); replace p167 := eq_true p167; replace q167 := eq_true q167))
                                            repeat (go_quiet (first | (go_at_call 11; (with_reducible refine (majordomolaw11_blank.calls kj13 (a0.extract (x7_2 : Int).toNat (((rd_T29 t149 x8_2).f2) : Int).toNat) true _ A26.out).mono ?_); rintro e w' ⟨rfl, ⟨nd, rfl⟩⟩; (try first | exact ⟨rfl, _, World.drewN_drewN _ _ _⟩ | exact ⟨rfl, _, Eq.trans (World.drewN_drewN _ _ _) (congrArg (World.drewN _) (Nat.add_assoc _ _ _))⟩)) | (go_at_call 9; (with_reducible refine (lexer_Lex.calls kj13 t156 t159 t160 t161 _ ?side1 A27.out).mono ?_); (case side1 => first | exact Amb.below HAMB.out (by repeat (first | (with_reducible first | exact HB.out | apply below_alloc | apply pw_below_drewN | apply below_drew1) | exact HB.out)) | exact Amb.drawn HAMB.out (by repeat (first | exact Drawn0.refl _ | apply Drawn0.step))); rintro e w36 ⟨v162, rfl, ho0, hb⟩; have n0_ := Aside0.mk (Kd.R_elder' (by (with_reducible repeat (first | apply Kd.R_alloc | apply Kd.R_drewN | apply Kd.R_drew)); exact HO_4.out) (Kd.R_base ho0) hb); have n1_ := Aside0.mk (Kd.R_lower (Kd.R_new' ho0 (Kd.R_lt (by (with_reducible repeat (first | apply Kd.R_alloc | apply Kd.R_drewN | apply Kd.R_drew)); exact HO_4.out))) (below_size (by repeat (first | (with_reducible first | exact HB.out | apply below_alloc | apply pw_below_drewN | apply below_drew1) | exact HB.out)))); have n2_ := Aside0.mk (below_step (by repeat (first | (with_reducible first | exact HB.out | apply below_alloc | apply pw_below_drewN | apply below_drew1) | exact HB.out)) hb); clear HO_4; clear HB; have HO_4 := n0_; have HO163 := n1_; have HB := n2_; clear n0_ n1_ n2_; (try clear hb); (try clear hb2); (try clear hk); (try clear hi); (try clear ho0); obtain ⟨Ao37, co37, eo37⟩ := Kd.R_slice HO163.out; subst eo37; have p164 : 0 ≤ (0 : Int) := (by omega); have q164 : 0 < (t159.length : Int) := of_decide_eq_true (by first | (with_reducible assumption) | assumption); obtain ⟨ad164, e164, hx164_0, hx164_1, hx164_2⟩ := at_T29 (Kd.R_reads' HO163.out).2.2 0 p164 q164; cases e164; have qi164 : (0 < t159.length) = True := eq_true (by omega); (try rw [show ((0 : Int)).toNat = 0 from rfl] at hx164_0); (try rw [show 0 * 3 = 0 from rfl] at hx164_0); (try rw [Addr.add_zero'] at hx164_0); (try rw [show ((0 : Int)).toNat = 0 from rfl] at hx164_1); (try rw [show 0 * 3 = 0 from rfl] at hx164_1); (try rw [Addr.add_zero'] at hx164_1); (try rw [show ((0 : Int)).toNat = 0 from rfl] at hx164_2); (try rw [show 0 * 3 = 0 from rfl] at hx164_2); (try rw [Addr.add_zero'] at hx164_2); replace p164 := eq_true p164; replace q164 := eq_true q164; have p165 : 0 ≤ (x8_2 : Int) := of_decide_eq_true (by first | (with_reducible assumption) | assumption); have q165 : x8_2 < (t149.length : Int) := of_decide_eq_true (by first | (with_reducible assumption) | assumption); obtain ⟨ad165, e165, hx165_0, hx165_1, hx165_2⟩ := at_T29 (Kd.R_reads' HO_4.out).2.2 x8_2 p165 q165; obtain rfl : ad155 = ad165 := (by injection e165); replace p165 := eq_true p165; replace q165 := eq_true q165; have p166 : 0 ≤ (0 : Int) := (by omega); have q166 : 0 < (t159.length : Int) := of_decide_eq_true (by first | (with_reducible assumption) | assumption); obtain ⟨ad166, e166, hx166_0, hx166_1, hx166_2⟩ := at_T29 (Kd.R_reads' HO163.out).2.2 0 p166 q166; obtain rfl : ad164 = ad166 := (by injection e166); have qi166 : (0 < t159.length) = True := eq_true (by omega); (try rw [show ((0 : Int)).toNat = 0 from rfl] at hx166_0); (try rw [show 0 * 3 = 0 from rfl] at hx166_0); (try rw [Addr.add_zero'] at hx166_0); (try rw [show ((0 : Int)).toNat = 0 from rfl] at hx166_1); (try rw [show 0 * 3 = 0 from rfl] at hx166_1); (try rw [Addr.add_zero'] at hx166_1); (try rw [show ((0 : Int)).toNat = 0 from rfl] at hx166_2); (try rw [show 0 * 3 = 0 from rfl] at hx166_2); (try rw [Addr.add_zero'] at hx166_2); replace p166 := eq_true p166; replace q166 := eq_true q166; have p167 : 0 ≤ (x8_2 : Int) := of_decide_eq_true (by first | (with_reducible assumption) | assumption); have q167 : x8_2 < (t149.length : Int) := of_decide_eq_true (by first | (with_reducible assumption) | assumption); obtain ⟨ad167, e167, hx167_0, hx167_1, hx167_2⟩ := at_T29 (Kd.R_reads' HO_4.out).2.2 x8_2 p167 q167; obtain rfl : ad155 = ad167 := (by injection e167); replace p167 := eq_true p167; replace q167 := eq_true q167)); try go_wp2_with (first | (go_at_call 11; (with_reducible refine (majordomolaw11_blank.calls kj13 (a0.extract (x7_2 : Int).toNat (((rd_T29 t149 x8_2).f2) : Int).toNat) true _ A26.out).mono ?_); rintro e w' ⟨rfl, ⟨nd, rfl⟩⟩; (try first | exact ⟨rfl, _, World.drewN_drewN _ _ _⟩ | exact ⟨rfl, _, Eq.trans (World.drewN_drewN _ _ _) (congrArg (World.drewN _) (Nat.add_assoc _ _ _))⟩)) | (go_at_call 9; (with_reducible refine (lexer_Lex.calls kj13 t156 t159 t160 t161 _ ?side1 A27.out).mono ?_); (case side1 => first | exact Amb.below HAMB.out (by repeat (first | (with_reducible first | exact HB.out | apply below_alloc | apply pw_below_drewN | apply below_drew1) | exact HB.out)) | exact Amb.drawn HAMB.out (by repeat (first | exact Drawn0.refl _ | apply Drawn0.step))); rintro e w36 ⟨v162, rfl, ho0, hb⟩; have n0_ := Aside0.mk (Kd.R_elder' (by (with_reducible repeat (first | apply Kd.R_alloc | apply Kd.R_drewN | apply Kd.R_drew)); exact HO_4.out) (Kd.R_base ho0) hb); have n1_ := Aside0.mk (Kd.R_lower (Kd.R_new' ho0 (Kd.R_lt (by (with_reducible repeat (first | apply Kd.R_alloc | apply Kd.R_drewN | apply Kd.R_drew)); exact HO_4.out))) (below_size (by repeat (first | (with_reducible first | exact HB.out | apply below_alloc | apply pw_below_drewN | apply below_drew1) | exact HB.out)))); have n2_ := Aside0.mk (below_step (by repeat (first | (with_reducible first | exact HB.out | apply below_alloc | apply pw_below_drewN | apply below_drew1) | exact HB.out)) hb); clear HO_4; clear HB; have HO_4 := n0_; have HO163 := n1_; have HB := n2_; clear n0_ n1_ n2_; (try clear hb); (try clear hb2); (try clear hk); (try clear hi); (try clear ho0); obtain ⟨Ao37, co37, eo37⟩ := Kd.R_slice HO163.out; subst eo37; have p164 : 0 ≤ (0 : Int) := (by omega); have q164 : 0 < (t159.length : Int) := of_decide_eq_true (by first | (with_reducible assumption) | assumption); obtain ⟨ad164, e164, hx164_0, hx164_1, hx164_2⟩ := at_T29 (Kd.R_reads' HO163.out).2.2 0 p164 q164; cases e164; have qi164 : (0 < t159.length) = True := eq_true (by omega); (try rw [show ((0 : Int)).toNat = 0 from rfl] at hx164_0); (try rw [show 0 * 3 = 0 from rfl] at hx164_0); (try rw [Addr.add_zero'] at hx164_0); (try rw [show ((0 : Int)).toNat = 0 from rfl] at hx164_1); (try rw [show 0 * 3 = 0 from rfl] at hx164_1); (try rw [Addr.add_zero'] at hx164_1); (try rw [show ((0 : Int)).toNat = 0 from rfl] at hx164_2); (try rw [show 0 * 3 = 0 from rfl] at hx164_2); (try rw [Addr.add_zero'] at hx164_2); replace p164 := eq_true p164; replace q164 := eq_true q164; have p165 : 0 ≤ (x8_2 : Int) := of_decide_eq_true (by first | (with_reducible assumption) | assumption); have q165 : x8_2 < (t149.length : Int) := of_decide_eq_true (by first | (with_reducible assumption) | assumption); obtain ⟨ad165, e165, hx165_0, hx165_1, hx165_2⟩ := at_T29 (Kd.R_reads' HO_4.out).2.2 x8_2 p165 q165; obtain rfl : ad155 = ad165 := (by injection e165); replace p165 := eq_true p165; replace q165 := eq_true q165; have p166 : 0 ≤ (0 : Int) := (by omega); have q166 : 0 < (t159.length : Int) := of_decide_eq_true (by first | (with_reducible assumption) | assumption); obtain ⟨ad166, e166, hx166_0, hx166_1, hx166_2⟩ := at_T29 (Kd.R_reads' HO163.out).2.2 0 p166 q166; obtain rfl : ad164 = ad166 := (by injection e166); have qi166 : (0 < t159.length) = True := eq_true (by omega); (try rw [show ((0 : Int)).toNat = 0 from rfl] at hx166_0); (try rw [show 0 * 3 = 0 from rfl] at hx166_0); (try rw [Addr.add_zero'] at hx166_0); (try rw [show ((0 : Int)).toNat = 0 from rfl] at hx166_1); (try rw [show 0 * 3 = 0 from rfl] at hx166_1); (try rw [Addr.add_zero'] at hx166_1); (try rw [show ((0 : Int)).toNat = 0 from rfl] at hx166_2); (try rw [show 0 * 3 = 0 from rfl] at hx166_2); (try rw [Addr.add_zero'] at hx166_2); replace p166 := eq_true p166; replace q166 := eq_true q166; have p167 : 0 ≤ (x8_2 : Int) := of_decide_eq_true (by first | (with_reducible assumption) | assumption); have q167 : x8_2 < (t149.length : Int) := of_decide_eq_true (by first | (with_reducible assumption) | assumption); obtain ⟨ad167, e167, hx167_0, hx167_1, hx167_2⟩ := at_T29 (Kd.R_reads' HO_4.out).2.2 x8_2 p167 q167; obtain rfl : ad155 = ad167 := (by injection e167); replace p167 := eq_true p167; replace q167 := eq_true q167)))
                                            go_roundg kj13
                                            case measure => have := HJ3.out; have := HK2.out; have := HJ13.out; omega
                                            case rel => exact ⟨(wrap64 (((rd_T29 t149 x8_2).f2) + (t156.size : Int))), (wrap64 (x8_2 + 1)), (by first | rfl | (simp; done) | (simp [*]; done)), (by first | rfl | (simp; done) | (simp [*]; done)), H', ⟨by have := HJ3.out; have := HK2.out; have := HJ13.out; omega⟩, ⟨by (with_reducible repeat (first | apply Kd.R_alloc | apply Kd.R_drewN | apply Kd.R_drew)); exact Kd.R_mono HO_4.out (fun _ hk => trivial)⟩, ⟨by repeat (first | (with_reducible first | exact HB.out | apply below_alloc | apply pw_below_drewN | apply below_drew1) | exact HB.out)⟩⟩
                                          · rw [if_neg c35] at H
                                            have c35b0 : (((rd_T29 t159 0).f1).toList == ((rd_T29 t149 x8_2).f1).toList) = false := beq_eq_false_iff_ne.mpr c35
                                            have c35b1 : (((rd_T29 t159 0).f1).toList != ((rd_T29 t149 x8_2).f1).toList) = true := bne_iff_ne.mpr c35
                                            obtain rfl := Option.some.inj H
                                            go_wp2_with (first | (go_at_call 11; (with_reducible refine (majordomolaw11_blank.calls kj13 (a0.extract (x7_2 : Int).toNat (((rd_T29 t149 x8_2).f2) : Int).toNat) true _ A26.out).mono ?_); rintro e w' ⟨rfl, ⟨nd, rfl⟩⟩; (try first | exact ⟨rfl, _, World.drewN_drewN _ _ _⟩ | exact ⟨rfl, _, Eq.trans (World.drewN_drewN _ _ _) (congrArg (World.drewN _) (Nat.add_assoc _ _ _))⟩)) | (go_at_call 9; (with_reducible refine (lexer_Lex.calls kj13 t156 t159 t160 t161 _ ?side1 A27.out).mono ?_); (case side1 => first | exact Amb.below HAMB.out (by repeat (first | (with_reducible first | exact HB.out | apply below_alloc | apply pw_below_drewN | apply below_drew1) | exact HB.out)) | exact Amb.drawn HAMB.out (by repeat (first | exact Drawn0.refl _ | apply Drawn0.step))); rintro e w38 ⟨v162, rfl, ho0, hb⟩; have n0_ := Aside0.mk (Kd.R_elder' (by (with_reducible repeat (first | apply Kd.R_alloc | apply Kd.R_drewN | apply Kd.R_drew)); exact HO_4.out) (Kd.R_base ho0) hb); have n1_ := Aside0.mk (Kd.R_lower (Kd.R_new' ho0 (Kd.R_lt (by (with_reducible repeat (first | apply Kd.R_alloc | apply Kd.R_drewN | apply Kd.R_drew)); exact HO_4.out))) (below_size (by repeat (first | (with_reducible first | exact HB.out | apply below_alloc | apply pw_below_drewN | apply below_drew1) | exact HB.out)))); have n2_ := Aside0.mk (below_step (by repeat (first | (with_reducible first | exact HB.out | apply below_alloc | apply pw_below_drewN | apply below_drew1) | exact HB.out)) hb); clear HO_4; clear HB; have HO_4 := n0_; have HO163 := n1_; have HB := n2_; clear n0_ n1_ n2_; (try clear hb); (try clear hb2); (try clear hk); (try clear hi); (try clear ho0); obtain ⟨Ao39, co39, eo39⟩ := Kd.R_slice HO163.out; subst eo39; have p164 : 0 ≤ (0 : Int) := (by omega); have q164 : 0 < (t159.length : Int) := of_decide_eq_true (by first | (with_reducible assumption) | assumption); obtain ⟨ad164, e164, hx164_0, hx164_1, hx164_2⟩ := at_T29 (Kd.R_reads' HO163.out).2.2 0 p164 q164; cases e164; have qi164 : (0 < t159.length) = True := eq_true (by omega); (try rw [show ((0 : Int)).toNat = 0 from rfl] at hx164_0); (try rw [show 0 * 3 = 0 from rfl] at hx164_0); (try rw [Addr.add_zero'] at hx164_0); (try rw [show ((0 : Int)).toNat = 0 from rfl] at hx164_1); (try rw [show 0 * 3 = 0 from rfl] at hx164_1); (try rw [Addr.add_zero'] at hx164_1); (try rw [show ((0 : Int)).toNat = 0 from rfl] at hx164_2); (try rw [show 0 * 3 = 0 from rfl] at hx164_2); (try rw [Addr.add_zero'] at hx164_2); replace p164 := eq_true p164; replace q164 := eq_true q164; have p165 : 0 ≤ (x8_2 : Int) := of_decide_eq_true (by first | (with_reducible assumption) | assumption); have q165 : x8_2 < (t149.length : Int) := of_decide_eq_true (by first | (with_reducible assumption) | assumption); obtain ⟨ad165, e165, hx165_0, hx165_1, hx165_2⟩ := at_T29 (Kd.R_reads' HO_4.out).2.2 x8_2 p165 q165; obtain rfl : ad155 = ad165 := (by injection e165); replace p165 := eq_true p165; replace q165 := eq_true q165; have p166 : 0 ≤ (0 : Int) := (by omega); have q166 : 0 < (t159.length : Int) := of_decide_eq_true (by first | (with_reducible assumption) | assumption); obtain ⟨ad166, e166, hx166_0, hx166_1, hx166_2⟩ := at_T29 (Kd.R_reads' HO163.out).2.2 0 p166 q166; obtain rfl : ad164 = ad166 := (by injection e166); have qi166 : (0 < t159.length) = True := eq_true (by omega); (try rw [show ((0 : Int)).toNat = 0 from rfl] at hx166_0); (try rw [show 0 * 3 = 0 from rfl] at hx166_0); (try rw [Addr.add_zero'] at hx166_0); (try rw [show ((0 : Int)).toNat = 0 from rfl] at hx166_1); (try rw [show 0 * 3 = 0 from rfl] at hx166_1); (try rw [Addr.add_zero'] at hx166_1); (try rw [show ((0 : Int)).toNat = 0 from rfl] at hx166_2); (try rw [show 0 * 3 = 0 from rfl] at hx166_2); (try rw [Addr.add_zero'] at hx166_2); replace p166 := eq_true p166; replace q166 := eq_true q166; have p167 : 0 ≤ (x8_2 : Int) := of_decide_eq_true (by first | (with_reducible assumption) | assumption); have q167 : x8_2 < (t149.length : Int) := of_decide_eq_true (by first | (with_reducible assumption) | assumption); obtain ⟨ad167, e167, hx167_0, hx167_1, hx167_2⟩ := at_T29 (Kd.R_reads' HO_4.out).2.2 x8_2 p167 q167; obtain rfl : ad155 = ad167 := (by injection e167); replace p167 := eq_true p167; replace q167 := eq_true q167))
                                            repeat (go_quiet (first | (go_at_call 11; (with_reducible refine (majordomolaw11_blank.calls kj13 (a0.extract (x7_2 : Int).toNat (((rd_T29 t149 x8_2).f2) : Int).toNat) true _ A26.out).mono ?_); rintro e w' ⟨rfl, ⟨nd, rfl⟩⟩; (try first | exact ⟨rfl, _, World.drewN_drewN _ _ _⟩ | exact ⟨rfl, _, Eq.trans (World.drewN_drewN _ _ _) (congrArg (World.drewN _) (Nat.add_assoc _ _ _))⟩)) | (go_at_call 9; (with_reducible refine (lexer_Lex.calls kj13 t156 t159 t160 t161 _ ?side1 A27.out).mono ?_); (case side1 => first | exact Amb.below HAMB.out (by repeat (first | (with_reducible first | exact HB.out | apply below_alloc | apply pw_below_drewN | apply below_drew1) | exact HB.out)) | exact Amb.drawn HAMB.out (by repeat (first | exact Drawn0.refl _ | apply Drawn0.step))); rintro e w38 ⟨v162, rfl, ho0, hb⟩; have n0_ := Aside0.mk (Kd.R_elder' (by (with_reducible repeat (first | apply Kd.R_alloc | apply Kd.R_drewN | apply Kd.R_drew)); exact HO_4.out) (Kd.R_base ho0) hb); have n1_ := Aside0.mk (Kd.R_lower (Kd.R_new' ho0 (Kd.R_lt (by (with_reducible repeat (first | apply Kd.R_alloc | apply Kd.R_drewN | apply Kd.R_drew)); exact HO_4.out))) (below_size (by repeat (first | (with_reducible first | exact HB.out | apply below_alloc | apply pw_below_drewN | apply below_drew1) | exact HB.out)))); have n2_ := Aside0.mk (below_step (by repeat (first | (with_reducible first | exact HB.out | apply below_alloc | apply pw_below_drewN | apply below_drew1) | exact HB.out)) hb); clear HO_4; clear HB; have HO_4 := n0_; have HO163 := n1_; have HB := n2_; clear n0_ n1_ n2_; (try clear hb); (try clear hb2); (try clear hk); (try clear hi); (try clear ho0); obtain ⟨Ao39, co39, eo39⟩ := Kd.R_slice HO163.out; subst eo39; have p164 : 0 ≤ (0 : Int) := (by omega); have q164 : 0 < (t159.length : Int) := of_decide_eq_true (by first | (with_reducible assumption) | assumption); obtain ⟨ad164, e164, hx164_0, hx164_1, hx164_2⟩ := at_T29 (Kd.R_reads' HO163.out).2.2 0 p164 q164; cases e164; have qi164 : (0 < t159.length) = True := eq_true (by omega); (try rw [show ((0 : Int)).toNat = 0 from rfl] at hx164_0); (try rw [show 0 * 3 = 0 from rfl] at hx164_0); (try rw [Addr.add_zero'] at hx164_0); (try rw [show ((0 : Int)).toNat = 0 from rfl] at hx164_1); (try rw [show 0 * 3 = 0 from rfl] at hx164_1); (try rw [Addr.add_zero'] at hx164_1); (try rw [show ((0 : Int)).toNat = 0 from rfl] at hx164_2); (try rw [show 0 * 3 = 0 from rfl] at hx164_2); (try rw [Addr.add_zero'] at hx164_2); replace p164 := eq_true p164; replace q164 := eq_true q164; have p165 : 0 ≤ (x8_2 : Int) := of_decide_eq_true (by first | (with_reducible assumption) | assumption); have q165 : x8_2 < (t149.length : Int) := of_decide_eq_true (by first | (with_reducible assumption) | assumption); obtain ⟨ad165, e165, hx165_0, hx165_1, hx165_2⟩ := at_T29 (Kd.R_reads' HO_4.out).2.2 x8_2 p165 q165; obtain rfl : ad155 = ad165 := (by injection e165); replace p165 := eq_true p165; replace q165 := eq_true q165; have p166 : 0 ≤ (0 : Int) := (by omega); have q166 : 0 < (t159.length : Int) := of_decide_eq_true (by first | (with_reducible assumption) | assumption); obtain ⟨ad166, e166, hx166_0, hx166_1, hx166_2⟩ := at_T29 (Kd.R_reads' HO163.out).2.2 0 p166 q166; obtain rfl : ad164 = ad166 := (by injection e166); have qi166 : (0 < t159.length) = True := eq_true (by omega); (try rw [show ((0 : Int)).toNat = 0 from rfl] at hx166_0); (try rw [show 0 * 3 = 0 from rfl] at hx166_0); (try rw [Addr.add_zero'] at hx166_0); (try rw [show ((0 : Int)).toNat = 0 from rfl] at hx166_1); (try rw [show 0 * 3 = 0 from rfl] at hx166_1); (try rw [Addr.add_zero'] at hx166_1); (try rw [show ((0 : Int)).toNat = 0 from rfl] at hx166_2); (try rw [show 0 * 3 = 0 from rfl] at hx166_2); (try rw [Addr.add_zero'] at hx166_2); replace p166 := eq_true p166; replace q166 := eq_true q166; have p167 : 0 ≤ (x8_2 : Int) := of_decide_eq_true (by first | (with_reducible assumption) | assumption); have q167 : x8_2 < (t149.length : Int) := of_decide_eq_true (by first | (with_reducible assumption) | assumption); obtain ⟨ad167, e167, hx167_0, hx167_1, hx167_2⟩ := at_T29 (Kd.R_reads' HO_4.out).2.2 x8_2 p167 q167; obtain rfl : ad155 = ad167 := (by injection e167); replace p167 := eq_true p167; replace q167 := eq_true q167)); try go_wp2_with (first | (go_at_call 11; (with_reducible refine (majordomolaw11_blank.calls kj13 (a0.extract (x7_2 : Int).toNat (((rd_T29 t149 x8_2).f2) : Int).toNat) true _ A26.out).mono ?_); rintro e w' ⟨rfl, ⟨nd, rfl⟩⟩; (try first | exact ⟨rfl, _, World.drewN_drewN _ _ _⟩ | exact ⟨rfl, _, Eq.trans (World.drewN_drewN _ _ _) (congrArg (World.drewN _) (Nat.add_assoc _ _ _))⟩)) | (go_at_call 9; (with_reducible refine (lexer_Lex.calls kj13 t156 t159 t160 t161 _ ?side1 A27.out).mono ?_); (case side1 => first | exact Amb.below HAMB.out (by repeat (first | (with_reducible first | exact HB.out | apply below_alloc | apply pw_below_drewN | apply below_drew1) | exact HB.out)) | exact Amb.drawn HAMB.out (by repeat (first | exact Drawn0.refl _ | apply Drawn0.step))); rintro e w38 ⟨v162, rfl, ho0, hb⟩; have n0_ := Aside0.mk (Kd.R_elder' (by (with_reducible repeat (first | apply Kd.R_alloc | apply Kd.R_drewN | apply Kd.R_drew)); exact HO_4.out) (Kd.R_base ho0) hb); have n1_ := Aside0.mk (Kd.R_lower (Kd.R_new' ho0 (Kd.R_lt (by (with_reducible repeat (first | apply Kd.R_alloc | apply Kd.R_drewN | apply Kd.R_drew)); exact HO_4.out))) (below_size (by repeat (first | (with_reducible first | exact HB.out | apply below_alloc | apply pw_below_drewN | apply below_drew1) | exact HB.out)))); have n2_ := Aside0.mk (below_step (by repeat (first | (with_reducible first | exact HB.out | apply below_alloc | apply pw_below_drewN | apply below_drew1) | exact HB.out)) hb); clear HO_4; clear HB; have HO_4 := n0_; have HO163 := n1_; have HB := n2_; clear n0_ n1_ n2_; (try clear hb); (try clear hb2); (try clear hk); (try clear hi); (try clear ho0); obtain ⟨Ao39, co39, eo39⟩ := Kd.R_slice HO163.out; subst eo39; have p164 : 0 ≤ (0 : Int) := (by omega); have q164 : 0 < (t159.length : Int) := of_decide_eq_true (by first | (with_reducible assumption) | assumption); obtain ⟨ad164, e164, hx164_0, hx164_1, hx164_2⟩ := at_T29 (Kd.R_reads' HO163.out).2.2 0 p164 q164; cases e164; have qi164 : (0 < t159.length) = True := eq_true (by omega); (try rw [show ((0 : Int)).toNat = 0 from rfl] at hx164_0); (try rw [show 0 * 3 = 0 from rfl] at hx164_0); (try rw [Addr.add_zero'] at hx164_0); (try rw [show ((0 : Int)).toNat = 0 from rfl] at hx164_1); (try rw [show 0 * 3 = 0 from rfl] at hx164_1); (try rw [Addr.add_zero'] at hx164_1); (try rw [show ((0 : Int)).toNat = 0 from rfl] at hx164_2); (try rw [show 0 * 3 = 0 from rfl] at hx164_2); (try rw [Addr.add_zero'] at hx164_2); replace p164 := eq_true p164; replace q164 := eq_true q164; have p165 : 0 ≤ (x8_2 : Int) := of_decide_eq_true (by first | (with_reducible assumption) | assumption); have q165 : x8_2 < (t149.length : Int) := of_decide_eq_true (by first | (with_reducible assumption) | assumption); obtain ⟨ad165, e165, hx165_0, hx165_1, hx165_2⟩ := at_T29 (Kd.R_reads' HO_4.out).2.2 x8_2 p165 q165; obtain rfl : ad155 = ad165 := (by injection e165); replace p165 := eq_true p165; replace q165 := eq_true q165; have p166 : 0 ≤ (0 : Int) := (by omega); have q166 : 0 < (t159.length : Int) := of_decide_eq_true (by first | (with_reducible assumption) | assumption); obtain ⟨ad166, e166, hx166_0, hx166_1, hx166_2⟩ := at_T29 (Kd.R_reads' HO163.out).2.2 0 p166 q166; obtain rfl : ad164 = ad166 := (by injection e166); have qi166 : (0 < t159.length) = True := eq_true (by omega); (try rw [show ((0 : Int)).toNat = 0 from rfl] at hx166_0); (try rw [show 0 * 3 = 0 from rfl] at hx166_0); (try rw [Addr.add_zero'] at hx166_0); (try rw [show ((0 : Int)).toNat = 0 from rfl] at hx166_1); (try rw [show 0 * 3 = 0 from rfl] at hx166_1); (try rw [Addr.add_zero'] at hx166_1); (try rw [show ((0 : Int)).toNat = 0 from rfl] at hx166_2); (try rw [show 0 * 3 = 0 from rfl] at hx166_2); (try rw [Addr.add_zero'] at hx166_2); replace p166 := eq_true p166; replace q166 := eq_true q166; have p167 : 0 ≤ (x8_2 : Int) := of_decide_eq_true (by first | (with_reducible assumption) | assumption); have q167 : x8_2 < (t149.length : Int) := of_decide_eq_true (by first | (with_reducible assumption) | assumption); obtain ⟨ad167, e167, hx167_0, hx167_1, hx167_2⟩ := at_T29 (Kd.R_reads' HO_4.out).2.2 x8_2 p167 q167; obtain rfl : ad155 = ad167 := (by injection e167); replace p167 := eq_true p167; replace q167 := eq_true q167)))
                                            go_ret
                                            exact ⟨by first | rfl | (simp [errW_none, errW_some] <;> rfl) | (simp [*, errW_none, errW_some] <;> rfl), by repeat (first | (with_reducible first | exact HB.out | apply below_alloc | apply pw_below_drewN | apply below_drew1) | exact HB.out)⟩
                                        · rw [if_neg c34] at H
                                          have c34b0 : (((rd_T29 t159 0).f0) == ((rd_T29 t149 x8_2).f0)) = false := beq_eq_false_iff_ne.mpr c34
                                          have c34b1 : (((rd_T29 t159 0).f0) != ((rd_T29 t149 x8_2).f0)) = true := bne_iff_ne.mpr c34
                                          obtain rfl := Option.some.inj H
                                          go_wp2_with (first | (go_at_call 11; (with_reducible refine (majordomolaw11_blank.calls kj13 (a0.extract (x7_2 : Int).toNat (((rd_T29 t149 x8_2).f2) : Int).toNat) true _ A26.out).mono ?_); rintro e w' ⟨rfl, ⟨nd, rfl⟩⟩; (try first | exact ⟨rfl, _, World.drewN_drewN _ _ _⟩ | exact ⟨rfl, _, Eq.trans (World.drewN_drewN _ _ _) (congrArg (World.drewN _) (Nat.add_assoc _ _ _))⟩)) | (go_at_call 9; (with_reducible refine (lexer_Lex.calls kj13 t156 t159 t160 t161 _ ?side1 A27.out).mono ?_); (case side1 => first | exact Amb.below HAMB.out (by repeat (first | (with_reducible first | exact HB.out | apply below_alloc | apply pw_below_drewN | apply below_drew1) | exact HB.out)) | exact Amb.drawn HAMB.out (by repeat (first | exact Drawn0.refl _ | apply Drawn0.step))); rintro e w40 ⟨v162, rfl, ho0, hb⟩; have n0_ := Aside0.mk (Kd.R_elder' (by (with_reducible repeat (first | apply Kd.R_alloc | apply Kd.R_drewN | apply Kd.R_drew)); exact HO_4.out) (Kd.R_base ho0) hb); have n1_ := Aside0.mk (Kd.R_lower (Kd.R_new' ho0 (Kd.R_lt (by (with_reducible repeat (first | apply Kd.R_alloc | apply Kd.R_drewN | apply Kd.R_drew)); exact HO_4.out))) (below_size (by repeat (first | (with_reducible first | exact HB.out | apply below_alloc | apply pw_below_drewN | apply below_drew1) | exact HB.out)))); have n2_ := Aside0.mk (below_step (by repeat (first | (with_reducible first | exact HB.out | apply below_alloc | apply pw_below_drewN | apply below_drew1) | exact HB.out)) hb); clear HO_4; clear HB; have HO_4 := n0_; have HO163 := n1_; have HB := n2_; clear n0_ n1_ n2_; (try clear hb); (try clear hb2); (try clear hk); (try clear hi); (try clear ho0); obtain ⟨Ao41, co41, eo41⟩ := Kd.R_slice HO163.out; subst eo41; have p164 : 0 ≤ (0 : Int) := (by omega); have q164 : 0 < (t159.length : Int) := of_decide_eq_true (by first | (with_reducible assumption) | assumption); obtain ⟨ad164, e164, hx164_0, hx164_1, hx164_2⟩ := at_T29 (Kd.R_reads' HO163.out).2.2 0 p164 q164; cases e164; have qi164 : (0 < t159.length) = True := eq_true (by omega); (try rw [show ((0 : Int)).toNat = 0 from rfl] at hx164_0); (try rw [show 0 * 3 = 0 from rfl] at hx164_0); (try rw [Addr.add_zero'] at hx164_0); (try rw [show ((0 : Int)).toNat = 0 from rfl] at hx164_1); (try rw [show 0 * 3 = 0 from rfl] at hx164_1); (try rw [Addr.add_zero'] at hx164_1); (try rw [show ((0 : Int)).toNat = 0 from rfl] at hx164_2); (try rw [show 0 * 3 = 0 from rfl] at hx164_2); (try rw [Addr.add_zero'] at hx164_2); replace p164 := eq_true p164; replace q164 := eq_true q164; have p165 : 0 ≤ (x8_2 : Int) := of_decide_eq_true (by first | (with_reducible assumption) | assumption); have q165 : x8_2 < (t149.length : Int) := of_decide_eq_true (by first | (with_reducible assumption) | assumption); obtain ⟨ad165, e165, hx165_0, hx165_1, hx165_2⟩ := at_T29 (Kd.R_reads' HO_4.out).2.2 x8_2 p165 q165; obtain rfl : ad155 = ad165 := (by injection e165); replace p165 := eq_true p165; replace q165 := eq_true q165))
                                          repeat (go_quiet (first | (go_at_call 11; (with_reducible refine (majordomolaw11_blank.calls kj13 (a0.extract (x7_2 : Int).toNat (((rd_T29 t149 x8_2).f2) : Int).toNat) true _ A26.out).mono ?_); rintro e w' ⟨rfl, ⟨nd, rfl⟩⟩; (try first | exact ⟨rfl, _, World.drewN_drewN _ _ _⟩ | exact ⟨rfl, _, Eq.trans (World.drewN_drewN _ _ _) (congrArg (World.drewN _) (Nat.add_assoc _ _ _))⟩)) | (go_at_call 9; (with_reducible refine (lexer_Lex.calls kj13 t156 t159 t160 t161 _ ?side1 A27.out).mono ?_); (case side1 => first | exact Amb.below HAMB.out (by repeat (first | (with_reducible first | exact HB.out | apply below_alloc | apply pw_below_drewN | apply below_drew1) | exact HB.out)) | exact Amb.drawn HAMB.out (by repeat (first | exact Drawn0.refl _ | apply Drawn0.step))); rintro e w40 ⟨v162, rfl, ho0, hb⟩; have n0_ := Aside0.mk (Kd.R_elder' (by (with_reducible repeat (first | apply Kd.R_alloc | apply Kd.R_drewN | apply Kd.R_drew)); exact HO_4.out) (Kd.R_base ho0) hb); have n1_ := Aside0.mk (Kd.R_lower (Kd.R_new' ho0 (Kd.R_lt (by (with_reducible repeat (first | apply Kd.R_alloc | apply Kd.R_drewN | apply Kd.R_drew)); exact HO_4.out))) (below_size (by repeat (first | (with_reducible first | exact HB.out | apply below_alloc | apply pw_below_drewN | apply below_drew1) | exact HB.out)))); have n2_ := Aside0.mk (below_step (by repeat (first | (with_reducible first | exact HB.out | apply below_alloc | apply pw_below_drewN | apply below_drew1) | exact HB.out)) hb); clear HO_4; clear HB; have HO_4 := n0_; have HO163 := n1_; have HB := n2_; clear n0_ n1_ n2_; (try clear hb); (try clear hb2); (try clear hk); (try clear hi); (try clear ho0); obtain ⟨Ao41, co41, eo41⟩ := Kd.R_slice HO163.out; subst eo41; have p164 : 0 ≤ (0 : Int) := (by omega); have q164 : 0 < (t159.length : Int) := of_decide_eq_true (by first | (with_reducible assumption) | assumption); obtain ⟨ad164, e164, hx164_0, hx164_1, hx164_2⟩ := at_T29 (Kd.R_reads' HO163.out).2.2 0 p164 q164; cases e164; have qi164 : (0 < t159.length) = True := eq_true (by omega); (try rw [show ((0 : Int)).toNat = 0 from rfl] at hx164_0); (try rw [show 0 * 3 = 0 from rfl] at hx164_0); (try rw [Addr.add_zero'] at hx164_0); (try rw [show ((0 : Int)).toNat = 0 from rfl] at hx164_1); (try rw [show 0 * 3 = 0 from rfl] at hx164_1); (try rw [Addr.add_zero'] at hx164_1); (try rw [show ((0 : Int)).toNat = 0 from rfl] at hx164_2); (try rw [show 0 * 3 = 0 from rfl] at hx164_2); (try rw [Addr.add_zero'] at hx164_2); replace p164 := eq_true p164; replace q164 := eq_true q164; have p165 : 0 ≤ (x8_2 : Int) := of_decide_eq_true (by first | (with_reducible assumption) | assumption); have q165 : x8_2 < (t149.length : Int) := of_decide_eq_true (by first | (with_reducible assumption) | assumption); obtain ⟨ad165, e165, hx165_0, hx165_1, hx165_2⟩ := at_T29 (Kd.R_reads' HO_4.out).2.2 x8_2 p165 q165; obtain rfl : ad155 = ad165 := (by injection e165); replace p165 := eq_true p165; replace q165 := eq_true q165)); try go_wp2_with (first | (go_at_call 11; (with_reducible refine (majordomolaw11_blank.calls kj13 (a0.extract (x7_2 : Int).toNat (((rd_T29 t149 x8_2).f2) : Int).toNat) true _ A26.out).mono ?_); rintro e w' ⟨rfl, ⟨nd, rfl⟩⟩; (try first | exact ⟨rfl, _, World.drewN_drewN _ _ _⟩ | exact ⟨rfl, _, Eq.trans (World.drewN_drewN _ _ _) (congrArg (World.drewN _) (Nat.add_assoc _ _ _))⟩)) | (go_at_call 9; (with_reducible refine (lexer_Lex.calls kj13 t156 t159 t160 t161 _ ?side1 A27.out).mono ?_); (case side1 => first | exact Amb.below HAMB.out (by repeat (first | (with_reducible first | exact HB.out | apply below_alloc | apply pw_below_drewN | apply below_drew1) | exact HB.out)) | exact Amb.drawn HAMB.out (by repeat (first | exact Drawn0.refl _ | apply Drawn0.step))); rintro e w40 ⟨v162, rfl, ho0, hb⟩; have n0_ := Aside0.mk (Kd.R_elder' (by (with_reducible repeat (first | apply Kd.R_alloc | apply Kd.R_drewN | apply Kd.R_drew)); exact HO_4.out) (Kd.R_base ho0) hb); have n1_ := Aside0.mk (Kd.R_lower (Kd.R_new' ho0 (Kd.R_lt (by (with_reducible repeat (first | apply Kd.R_alloc | apply Kd.R_drewN | apply Kd.R_drew)); exact HO_4.out))) (below_size (by repeat (first | (with_reducible first | exact HB.out | apply below_alloc | apply pw_below_drewN | apply below_drew1) | exact HB.out)))); have n2_ := Aside0.mk (below_step (by repeat (first | (with_reducible first | exact HB.out | apply below_alloc | apply pw_below_drewN | apply below_drew1) | exact HB.out)) hb); clear HO_4; clear HB; have HO_4 := n0_; have HO163 := n1_; have HB := n2_; clear n0_ n1_ n2_; (try clear hb); (try clear hb2); (try clear hk); (try clear hi); (try clear ho0); obtain ⟨Ao41, co41, eo41⟩ := Kd.R_slice HO163.out; subst eo41; have p164 : 0 ≤ (0 : Int) := (by omega); have q164 : 0 < (t159.length : Int) := of_decide_eq_true (by first | (with_reducible assumption) | assumption); obtain ⟨ad164, e164, hx164_0, hx164_1, hx164_2⟩ := at_T29 (Kd.R_reads' HO163.out).2.2 0 p164 q164; cases e164; have qi164 : (0 < t159.length) = True := eq_true (by omega); (try rw [show ((0 : Int)).toNat = 0 from rfl] at hx164_0); (try rw [show 0 * 3 = 0 from rfl] at hx164_0); (try rw [Addr.add_zero'] at hx164_0); (try rw [show ((0 : Int)).toNat = 0 from rfl] at hx164_1); (try rw [show 0 * 3 = 0 from rfl] at hx164_1); (try rw [Addr.add_zero'] at hx164_1); (try rw [show ((0 : Int)).toNat = 0 from rfl] at hx164_2); (try rw [show 0 * 3 = 0 from rfl] at hx164_2); (try rw [Addr.add_zero'] at hx164_2); replace p164 := eq_true p164; replace q164 := eq_true q164; have p165 : 0 ≤ (x8_2 : Int) := of_decide_eq_true (by first | (with_reducible assumption) | assumption); have q165 : x8_2 < (t149.length : Int) := of_decide_eq_true (by first | (with_reducible assumption) | assumption); obtain ⟨ad165, e165, hx165_0, hx165_1, hx165_2⟩ := at_T29 (Kd.R_reads' HO_4.out).2.2 x8_2 p165 q165; obtain rfl : ad155 = ad165 := (by injection e165); replace p165 := eq_true p165; replace q165 := eq_true q165)))
                                          go_ret
                                          exact ⟨by first | rfl | (simp [errW_none, errW_some] <;> rfl) | (simp [*, errW_none, errW_some] <;> rfl), by repeat (first | (with_reducible first | exact HB.out | apply below_alloc | apply pw_below_drewN | apply below_drew1) | exact HB.out)⟩
                                      · rw [if_neg c33] at H
                                        exact absurd H (by simp)
                                    · rw [if_neg c32] at H
                                      exact absurd H (by simp)
                                  · rw [if_neg c31] at H
                                    exact absurd H (by simp)
                                · rw [if_neg c30] at H
                                  have c30b0 : ((t159.length : Int) == 1) = false := beq_eq_false_iff_ne.mpr c30
                                  have c30b1 : ((t159.length : Int) != 1) = true := bne_iff_ne.mpr c30
                                  obtain rfl := Option.some.inj H
                                  go_wp2_with (first | (go_at_call 11; (with_reducible refine (majordomolaw11_blank.calls kj13 (a0.extract (x7_2 : Int).toNat (((rd_T29 t149 x8_2).f2) : Int).toNat) true _ A26.out).mono ?_); rintro e w' ⟨rfl, ⟨nd, rfl⟩⟩; (try first | exact ⟨rfl, _, World.drewN_drewN _ _ _⟩ | exact ⟨rfl, _, Eq.trans (World.drewN_drewN _ _ _) (congrArg (World.drewN _) (Nat.add_assoc _ _ _))⟩)) | (go_at_call 9; (with_reducible refine (lexer_Lex.calls kj13 t156 t159 t160 t161 _ ?side1 A27.out).mono ?_); (case side1 => first | exact Amb.below HAMB.out (by repeat (first | (with_reducible first | exact HB.out | apply below_alloc | apply pw_below_drewN | apply below_drew1) | exact HB.out)) | exact Amb.drawn HAMB.out (by repeat (first | exact Drawn0.refl _ | apply Drawn0.step))); rintro e w42 ⟨v162, rfl, ho0, hb⟩; have n0_ := Aside0.mk (Kd.R_elder' (by (with_reducible repeat (first | apply Kd.R_alloc | apply Kd.R_drewN | apply Kd.R_drew)); exact HO_4.out) (Kd.R_base ho0) hb); have n1_ := Aside0.mk (Kd.R_lower (Kd.R_new' ho0 (Kd.R_lt (by (with_reducible repeat (first | apply Kd.R_alloc | apply Kd.R_drewN | apply Kd.R_drew)); exact HO_4.out))) (below_size (by repeat (first | (with_reducible first | exact HB.out | apply below_alloc | apply pw_below_drewN | apply below_drew1) | exact HB.out)))); have n2_ := Aside0.mk (below_step (by repeat (first | (with_reducible first | exact HB.out | apply below_alloc | apply pw_below_drewN | apply below_drew1) | exact HB.out)) hb); clear HO_4; clear HB; have HO_4 := n0_; have HO163 := n1_; have HB := n2_; clear n0_ n1_ n2_; (try clear hb); (try clear hb2); (try clear hk); (try clear hi); (try clear ho0); obtain ⟨Ao43, co43, eo43⟩ := Kd.R_slice HO163.out; subst eo43))
                                  repeat (go_quiet (first | (go_at_call 11; (with_reducible refine (majordomolaw11_blank.calls kj13 (a0.extract (x7_2 : Int).toNat (((rd_T29 t149 x8_2).f2) : Int).toNat) true _ A26.out).mono ?_); rintro e w' ⟨rfl, ⟨nd, rfl⟩⟩; (try first | exact ⟨rfl, _, World.drewN_drewN _ _ _⟩ | exact ⟨rfl, _, Eq.trans (World.drewN_drewN _ _ _) (congrArg (World.drewN _) (Nat.add_assoc _ _ _))⟩)) | (go_at_call 9; (with_reducible refine (lexer_Lex.calls kj13 t156 t159 t160 t161 _ ?side1 A27.out).mono ?_); (case side1 => first | exact Amb.below HAMB.out (by repeat (first | (with_reducible first | exact HB.out | apply below_alloc | apply pw_below_drewN | apply below_drew1) | exact HB.out)) | exact Amb.drawn HAMB.out (by repeat (first | exact Drawn0.refl _ | apply Drawn0.step))); rintro e w42 ⟨v162, rfl, ho0, hb⟩; have n0_ := Aside0.mk (Kd.R_elder' (by (with_reducible repeat (first | apply Kd.R_alloc | apply Kd.R_drewN | apply Kd.R_drew)); exact HO_4.out) (Kd.R_base ho0) hb); have n1_ := Aside0.mk (Kd.R_lower (Kd.R_new' ho0 (Kd.R_lt (by (with_reducible repeat (first | apply Kd.R_alloc | apply Kd.R_drewN | apply Kd.R_drew)); exact HO_4.out))) (below_size (by repeat (first | (with_reducible first | exact HB.out | apply below_alloc | apply pw_below_drewN | apply below_drew1) | exact HB.out)))); have n2_ := Aside0.mk (below_step (by repeat (first | (with_reducible first | exact HB.out | apply below_alloc | apply pw_below_drewN | apply below_drew1) | exact HB.out)) hb); clear HO_4; clear HB; have HO_4 := n0_; have HO163 := n1_; have HB := n2_; clear n0_ n1_ n2_; (try clear hb); (try clear hb2); (try clear hk); (try clear hi); (try clear ho0); obtain ⟨Ao43, co43, eo43⟩ := Kd.R_slice HO163.out; subst eo43)); try go_wp2_with (first | (go_at_call 11; (with_reducible refine (majordomolaw11_blank.calls kj13 (a0.extract (x7_2 : Int).toNat (((rd_T29 t149 x8_2).f2) : Int).toNat) true _ A26.out).mono ?_); rintro e w' ⟨rfl, ⟨nd, rfl⟩⟩; (try first | exact ⟨rfl, _, World.drewN_drewN _ _ _⟩ | exact ⟨rfl, _, Eq.trans (World.drewN_drewN _ _ _) (congrArg (World.drewN _) (Nat.add_assoc _ _ _))⟩)) | (go_at_call 9; (with_reducible refine (lexer_Lex.calls kj13 t156 t159 t160 t161 _ ?side1 A27.out).mono ?_); (case side1 => first | exact Amb.below HAMB.out (by repeat (first | (with_reducible first | exact HB.out | apply below_alloc | apply pw_below_drewN | apply below_drew1) | exact HB.out)) | exact Amb.drawn HAMB.out (by repeat (first | exact Drawn0.refl _ | apply Drawn0.step))); rintro e w42 ⟨v162, rfl, ho0, hb⟩; have n0_ := Aside0.mk (Kd.R_elder' (by (with_reducible repeat (first | apply Kd.R_alloc | apply Kd.R_drewN | apply Kd.R_drew)); exact HO_4.out) (Kd.R_base ho0) hb); have n1_ := Aside0.mk (Kd.R_lower (Kd.R_new' ho0 (Kd.R_lt (by (with_reducible repeat (first | apply Kd.R_alloc | apply Kd.R_drewN | apply Kd.R_drew)); exact HO_4.out))) (below_size (by repeat (first | (with_reducible first | exact HB.out | apply below_alloc | apply pw_below_drewN | apply below_drew1) | exact HB.out)))); have n2_ := Aside0.mk (below_step (by repeat (first | (with_reducible first | exact HB.out | apply below_alloc | apply pw_below_drewN | apply below_drew1) | exact HB.out)) hb); clear HO_4; clear HB; have HO_4 := n0_; have HO163 := n1_; have HB := n2_; clear n0_ n1_ n2_; (try clear hb); (try clear hb2); (try clear hk); (try clear hi); (try clear ho0); obtain ⟨Ao43, co43, eo43⟩ := Kd.R_slice HO163.out; subst eo43)))
                                  go_ret
                                  exact ⟨by first | rfl | (simp [errW_none, errW_some] <;> rfl) | (simp [*, errW_none, errW_some] <;> rfl), by repeat (first | (with_reducible first | exact HB.out | apply below_alloc | apply pw_below_drewN | apply below_drew1) | exact HB.out)⟩
                              · rw [if_neg c29] at H
                                have c29b0 : (t161 == 0) = false := beq_eq_false_iff_ne.mpr c29
                                have c29b1 : (t161 != 0) = true := bne_iff_ne.mpr c29
                                obtain rfl := Option.some.inj H
                                go_wp2_with (first | (go_at_call 11; (with_reducible refine (majordomolaw11_blank.calls kj13 (a0.extract (x7_2 : Int).toNat (((rd_T29 t149 x8_2).f2) : Int).toNat) true _ A26.out).mono ?_); rintro e w' ⟨rfl, ⟨nd, rfl⟩⟩; (try first | exact ⟨rfl, _, World.drewN_drewN _ _ _⟩ | exact ⟨rfl, _, Eq.trans (World.drewN_drewN _ _ _) (congrArg (World.drewN _) (Nat.add_assoc _ _ _))⟩)) | (go_at_call 9; (with_reducible refine (lexer_Lex.calls kj13 t156 t159 t160 t161 _ ?side1 A27.out).mono ?_); (case side1 => first | exact Amb.below HAMB.out (by repeat (first | (with_reducible first | exact HB.out | apply below_alloc | apply pw_below_drewN | apply below_drew1) | exact HB.out)) | exact Amb.drawn HAMB.out (by repeat (first | exact Drawn0.refl _ | apply Drawn0.step))); rintro e w44 ⟨v162, rfl, ho0, hb⟩; have n0_ := Aside0.mk (Kd.R_elder' (by (with_reducible repeat (first | apply Kd.R_alloc | apply Kd.R_drewN | apply Kd.R_drew)); exact HO_4.out) (Kd.R_base ho0) hb); have n1_ := Aside0.mk (Kd.R_lower (Kd.R_new' ho0 (Kd.R_lt (by (with_reducible repeat (first | apply Kd.R_alloc | apply Kd.R_drewN | apply Kd.R_drew)); exact HO_4.out))) (below_size (by repeat (first | (with_reducible first | exact HB.out | apply below_alloc | apply pw_below_drewN | apply below_drew1) | exact HB.out)))); have n2_ := Aside0.mk (below_step (by repeat (first | (with_reducible first | exact HB.out | apply below_alloc | apply pw_below_drewN | apply below_drew1) | exact HB.out)) hb); clear HO_4; clear HB; have HO_4 := n0_; have HO163 := n1_; have HB := n2_; clear n0_ n1_ n2_; (try clear hb); (try clear hb2); (try clear hk); (try clear hi); (try clear ho0)))
                                repeat (go_quiet (first | (go_at_call 11; (with_reducible refine (majordomolaw11_blank.calls kj13 (a0.extract (x7_2 : Int).toNat (((rd_T29 t149 x8_2).f2) : Int).toNat) true _ A26.out).mono ?_); rintro e w' ⟨rfl, ⟨nd, rfl⟩⟩; (try first | exact ⟨rfl, _, World.drewN_drewN _ _ _⟩ | exact ⟨rfl, _, Eq.trans (World.drewN_drewN _ _ _) (congrArg (World.drewN _) (Nat.add_assoc _ _ _))⟩)) | (go_at_call 9; (with_reducible refine (lexer_Lex.calls kj13 t156 t159 t160 t161 _ ?side1 A27.out).mono ?_); (case side1 => first | exact Amb.below HAMB.out (by repeat (first | (with_reducible first | exact HB.out | apply below_alloc | apply pw_below_drewN | apply below_drew1) | exact HB.out)) | exact Amb.drawn HAMB.out (by repeat (first | exact Drawn0.refl _ | apply Drawn0.step))); rintro e w44 ⟨v162, rfl, ho0, hb⟩; have n0_ := Aside0.mk (Kd.R_elder' (by (with_reducible repeat (first | apply Kd.R_alloc | apply Kd.R_drewN | apply Kd.R_drew)); exact HO_4.out) (Kd.R_base ho0) hb); have n1_ := Aside0.mk (Kd.R_lower (Kd.R_new' ho0 (Kd.R_lt (by (with_reducible repeat (first | apply Kd.R_alloc | apply Kd.R_drewN | apply Kd.R_drew)); exact HO_4.out))) (below_size (by repeat (first | (with_reducible first | exact HB.out | apply below_alloc | apply pw_below_drewN | apply below_drew1) | exact HB.out)))); have n2_ := Aside0.mk (below_step (by repeat (first | (with_reducible first | exact HB.out | apply below_alloc | apply pw_below_drewN | apply below_drew1) | exact HB.out)) hb); clear HO_4; clear HB; have HO_4 := n0_; have HO163 := n1_; have HB := n2_; clear n0_ n1_ n2_; (try clear hb); (try clear hb2); (try clear hk); (try clear hi); (try clear ho0))); try go_wp2_with (first | (go_at_call 11; (with_reducible refine (majordomolaw11_blank.calls kj13 (a0.extract (x7_2 : Int).toNat (((rd_T29 t149 x8_2).f2) : Int).toNat) true _ A26.out).mono ?_); rintro e w' ⟨rfl, ⟨nd, rfl⟩⟩; (try first | exact ⟨rfl, _, World.drewN_drewN _ _ _⟩ | exact ⟨rfl, _, Eq.trans (World.drewN_drewN _ _ _) (congrArg (World.drewN _) (Nat.add_assoc _ _ _))⟩)) | (go_at_call 9; (with_reducible refine (lexer_Lex.calls kj13 t156 t159 t160 t161 _ ?side1 A27.out).mono ?_); (case side1 => first | exact Amb.below HAMB.out (by repeat (first | (with_reducible first | exact HB.out | apply below_alloc | apply pw_below_drewN | apply below_drew1) | exact HB.out)) | exact Amb.drawn HAMB.out (by repeat (first | exact Drawn0.refl _ | apply Drawn0.step))); rintro e w44 ⟨v162, rfl, ho0, hb⟩; have n0_ := Aside0.mk (Kd.R_elder' (by (with_reducible repeat (first | apply Kd.R_alloc | apply Kd.R_drewN | apply Kd.R_drew)); exact HO_4.out) (Kd.R_base ho0) hb); have n1_ := Aside0.mk (Kd.R_lower (Kd.R_new' ho0 (Kd.R_lt (by (with_reducible repeat (first | apply Kd.R_alloc | apply Kd.R_drewN | apply Kd.R_drew)); exact HO_4.out))) (below_size (by repeat (first | (with_reducible first | exact HB.out | apply below_alloc | apply pw_below_drewN | apply below_drew1) | exact HB.out)))); have n2_ := Aside0.mk (below_step (by repeat (first | (with_reducible first | exact HB.out | apply below_alloc | apply pw_below_drewN | apply below_drew1) | exact HB.out)) hb); clear HO_4; clear HB; have HO_4 := n0_; have HO163 := n1_; have HB := n2_; clear n0_ n1_ n2_; (try clear hb); (try clear hb2); (try clear hk); (try clear hi); (try clear ho0))))
                                go_ret
                                exact ⟨by first | rfl | (simp [errW_none, errW_some] <;> rfl) | (simp [*, errW_none, errW_some] <;> rfl), by repeat (first | (with_reducible first | exact HB.out | apply below_alloc | apply pw_below_drewN | apply below_drew1) | exact HB.out)⟩
                            · replace c28 := Bool.eq_false_iff.mpr c28
                              subst c28
                              have H1 : (some false) = some r := by rw [if_neg (show ¬ (false = true) by decide)] at H; exact H
                              clear H
                              have H := H1
                              clear H1
                              obtain rfl := Option.some.inj H
                              go_wp2_with (first | (go_at_call 11; (with_reducible refine (majordomolaw11_blank.calls kj13 (a0.extract (x7_2 : Int).toNat (((rd_T29 t149 x8_2).f2) : Int).toNat) false _ A26.out).mono ?_); rintro e w' ⟨rfl, ⟨nd, rfl⟩⟩; (try first | exact ⟨rfl, _, World.drewN_drewN _ _ _⟩ | exact ⟨rfl, _, Eq.trans (World.drewN_drewN _ _ _) (congrArg (World.drewN _) (Nat.add_assoc _ _ _))⟩)) | (go_at_call 9; (with_reducible refine (lexer_Lex.calls kj13 t156 t159 t160 t161 _ ?side1 A27.out).mono ?_); (case side1 => first | exact Amb.below HAMB.out (by repeat (first | (with_reducible first | exact HB.out | apply below_alloc | apply pw_below_drewN | apply below_drew1) | exact HB.out)) | exact Amb.drawn HAMB.out (by repeat (first | exact Drawn0.refl _ | apply Drawn0.step))); rintro e w45 ⟨v162, rfl, ho0, hb⟩; have n0_ := Aside0.mk (Kd.R_elder' (by (with_reducible repeat (first | apply Kd.R_alloc | apply Kd.R_drewN | apply Kd.R_drew)); exact HO_4.out) (Kd.R_base ho0) hb); have n1_ := Aside0.mk (Kd.R_lower (Kd.R_new' ho0 (Kd.R_lt (by (with_reducible repeat (first | apply Kd.R_alloc | apply Kd.R_drewN | apply Kd.R_drew)); exact HO_4.out))) (below_size (by repeat (first | (with_reducible first | exact HB.out | apply below_alloc | apply pw_below_drewN | apply below_drew1) | exact HB.out)))); have n2_ := Aside0.mk (below_step (by repeat (first | (with_reducible first | exact HB.out | apply below_alloc | apply pw_below_drewN | apply below_drew1) | exact HB.out)) hb); clear HO_4; clear HB; have HO_4 := n0_; have HO163 := n1_; have HB := n2_; clear n0_ n1_ n2_; (try clear hb); (try clear hb2); (try clear hk); (try clear hi); (try clear ho0)))
                              repeat (go_quiet (first | (go_at_call 11; (with_reducible refine (majordomolaw11_blank.calls kj13 (a0.extract (x7_2 : Int).toNat (((rd_T29 t149 x8_2).f2) : Int).toNat) false _ A26.out).mono ?_); rintro e w' ⟨rfl, ⟨nd, rfl⟩⟩; (try first | exact ⟨rfl, _, World.drewN_drewN _ _ _⟩ | exact ⟨rfl, _, Eq.trans (World.drewN_drewN _ _ _) (congrArg (World.drewN _) (Nat.add_assoc _ _ _))⟩)) | (go_at_call 9; (with_reducible refine (lexer_Lex.calls kj13 t156 t159 t160 t161 _ ?side1 A27.out).mono ?_); (case side1 => first | exact Amb.below HAMB.out (by repeat (first | (with_reducible first | exact HB.out | apply below_alloc | apply pw_below_drewN | apply below_drew1) | exact HB.out)) | exact Amb.drawn HAMB.out (by repeat (first | exact Drawn0.refl _ | apply Drawn0.step))); rintro e w45 ⟨v162, rfl, ho0, hb⟩; have n0_ := Aside0.mk (Kd.R_elder' (by (with_reducible repeat (first | apply Kd.R_alloc | apply Kd.R_drewN | apply Kd.R_drew)); exact HO_4.out) (Kd.R_base ho0) hb); have n1_ := Aside0.mk (Kd.R_lower (Kd.R_new' ho0 (Kd.R_lt (by (with_reducible repeat (first | apply Kd.R_alloc | apply Kd.R_drewN | apply Kd.R_drew)); exact HO_4.out))) (below_size (by repeat (first | (with_reducible first | exact HB.out | apply below_alloc | apply pw_below_drewN | apply below_drew1) | exact HB.out)))); have n2_ := Aside0.mk (below_step (by repeat (first | (with_reducible first | exact HB.out | apply below_alloc | apply pw_below_drewN | apply below_drew1) | exact HB.out)) hb); clear HO_4; clear HB; have HO_4 := n0_; have HO163 := n1_; have HB := n2_; clear n0_ n1_ n2_; (try clear hb); (try clear hb2); (try clear hk); (try clear hi); (try clear ho0))); try go_wp2_with (first | (go_at_call 11; (with_reducible refine (majordomolaw11_blank.calls kj13 (a0.extract (x7_2 : Int).toNat (((rd_T29 t149 x8_2).f2) : Int).toNat) false _ A26.out).mono ?_); rintro e w' ⟨rfl, ⟨nd, rfl⟩⟩; (try first | exact ⟨rfl, _, World.drewN_drewN _ _ _⟩ | exact ⟨rfl, _, Eq.trans (World.drewN_drewN _ _ _) (congrArg (World.drewN _) (Nat.add_assoc _ _ _))⟩)) | (go_at_call 9; (with_reducible refine (lexer_Lex.calls kj13 t156 t159 t160 t161 _ ?side1 A27.out).mono ?_); (case side1 => first | exact Amb.below HAMB.out (by repeat (first | (with_reducible first | exact HB.out | apply below_alloc | apply pw_below_drewN | apply below_drew1) | exact HB.out)) | exact Amb.drawn HAMB.out (by repeat (first | exact Drawn0.refl _ | apply Drawn0.step))); rintro e w45 ⟨v162, rfl, ho0, hb⟩; have n0_ := Aside0.mk (Kd.R_elder' (by (with_reducible repeat (first | apply Kd.R_alloc | apply Kd.R_drewN | apply Kd.R_drew)); exact HO_4.out) (Kd.R_base ho0) hb); have n1_ := Aside0.mk (Kd.R_lower (Kd.R_new' ho0 (Kd.R_lt (by (with_reducible repeat (first | apply Kd.R_alloc | apply Kd.R_drewN | apply Kd.R_drew)); exact HO_4.out))) (below_size (by repeat (first | (with_reducible first | exact HB.out | apply below_alloc | apply pw_below_drewN | apply below_drew1) | exact HB.out)))); have n2_ := Aside0.mk (below_step (by repeat (first | (with_reducible first | exact HB.out | apply below_alloc | apply pw_below_drewN | apply below_drew1) | exact HB.out)) hb); clear HO_4; clear HB; have HO_4 := n0_; have HO163 := n1_; have HB := n2_; clear n0_ n1_ n2_; (try clear hb); (try clear hb2); (try clear hk); (try clear hi); (try clear ho0))))
                              go_ret
                              exact ⟨by first | rfl | (simp [errW_none, errW_some] <;> rfl) | (simp [*, errW_none, errW_some] <;> rfl), by repeat (first | (with_reducible first | exact HB.out | apply below_alloc | apply pw_below_drewN | apply below_drew1) | exact HB.out)⟩
                          · rw [if_neg c25] at H
                            exact absurd H (by simp)
                        · rw [if_neg c24] at H
                          exact absurd H (by simp)
                      · rw [if_neg c23] at H
                        exact absurd H (by simp)
              · rw [if_neg c12] at H
                exact absurd H (by simp)
            · rw [if_neg c11] at H
              have c11b0 : decide (x8_2 < (t149.length : Int)) = false := decide_eq_false c11
              clear c11
              by_cases c46 : 0 ≤ x7_2
              · rw [if_pos c46] at H
                have c46b0 := eq_true c46
                have c46b1 : decide (0 ≤ x7_2) = true := decide_eq_true c46
                clear c46
                by_cases c47 : x7_2 ≤ (a0.size : Int)
                · rw [if_pos c47] at H
                  have c47b0 := eq_true c47
                  have c47b1 : decide (x7_2 ≤ (a0.size : Int)) = true := decide_eq_true c47
                  clear c47
                  replace H := Option.bind_eq_some_iff.mp H
                  obtain ⟨t154, A480, H⟩ := H
                  replace H : (some t154) = some r := H
                  have A48 := Aside0.mk A480
                  clear A480
                  obtain rfl := Option.some.inj H
                  obtain ⟨Ao49, co49, eo49⟩ := Kd.R_slice HO_4.out
                  subst eo49
                  go_wp2_with (first | (go_at_call 11; (with_reducible refine (majordomolaw11_blank.calls k2 (a0.extract (x7_2 : Int).toNat a0.size) t154 _ A48.out).mono ?_); rintro e w' ⟨rfl, ⟨nd, rfl⟩⟩; (try first | exact ⟨rfl, _, World.drewN_drewN _ _ _⟩ | exact ⟨rfl, _, Eq.trans (World.drewN_drewN _ _ _) (congrArg (World.drewN _) (Nat.add_assoc _ _ _))⟩)))
                  repeat (go_quiet (first | (go_at_call 11; (with_reducible refine (majordomolaw11_blank.calls k2 (a0.extract (x7_2 : Int).toNat a0.size) t154 _ A48.out).mono ?_); rintro e w' ⟨rfl, ⟨nd, rfl⟩⟩; (try first | exact ⟨rfl, _, World.drewN_drewN _ _ _⟩ | exact ⟨rfl, _, Eq.trans (World.drewN_drewN _ _ _) (congrArg (World.drewN _) (Nat.add_assoc _ _ _))⟩))); try go_wp2_with (first | (go_at_call 11; (with_reducible refine (majordomolaw11_blank.calls k2 (a0.extract (x7_2 : Int).toNat a0.size) t154 _ A48.out).mono ?_); rintro e w' ⟨rfl, ⟨nd, rfl⟩⟩; (try first | exact ⟨rfl, _, World.drewN_drewN _ _ _⟩ | exact ⟨rfl, _, Eq.trans (World.drewN_drewN _ _ _) (congrArg (World.drewN _) (Nat.add_assoc _ _ _))⟩))))
                  go_ret
                  exact ⟨by first | rfl | (simp [errW_none, errW_some] <;> rfl) | (simp [*, errW_none, errW_some] <;> rfl), by repeat (first | (with_reducible first | exact HB.out | apply below_alloc | apply pw_below_drewN | apply below_drew1) | exact HB.out)⟩
                · rw [if_neg c47] at H
                  exact absurd H (by simp)
              · rw [if_neg c46] at H
                exact absurd H (by simp)

end Go.Proofs.YtjjhopcbipedaaaDoor.PX
