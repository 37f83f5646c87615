-- printed by wip/printx (a program of this session's, over the kit's print)
import Derived.Test.YtjjhopcbipedaaaDoorPXx0
import Derived.Test.YtjjhopcbipedaaaDoorPXx4
import Derived.Test.YtjjhopcbipedaaaDoorPXx5
namespace Go.Proofs.YtjjhopcbipedaaaDoor.PX
open Go.RowKit Go.Proofs.YtjjhopcbipedaaaDoorW.PrintWords Go.Proofs.YtjjhopcbipedaaaDoorW.PrintLast Go.Proofs.YtjjhopcbipedaaaDoorW.PrintMore
attribute [local go_sem] max2_int min2_int max_two min_two max_three min_three max_four min_four Go.Proofs.YtjjhopcbipedaaaDoor.PxMore.isSome_setCell   -- for this text's walks alone
set_option linter.unusedVariables false
set_option linter.unusedSimpArgs false

/-! ### majordomolaw11_LexerComments: function 5 -/
mutual
def majordomolaw11_LexerComments.l0 : Nat → ByteArray → ByteArray → Bool → List (S29) → Int → Int → Option (Bool)
  | 0, _, _, _, _, _, _ => none
  | k + 1, x0, x1, x5, x6, x8, x9 => if x9 < (x1.size : Int) then (if 0 ≤ x9 then (if (bt x1 x9) = 10 then (some x5) else (majordomolaw11_LexerComments.l0 k x0 x1 x5 x6 x8 (wrap64 (x9 + 1)))) else (none)) else (if x5 = true then (if x8 = 0 then (majordomolaw11_LexerComments.j1 k x0 x1 x5 x6 (decide ((wrap64 ((x0.size : Int) + (x1.size : Int))) > 65527))) else (majordomolaw11_LexerComments.j1 k x0 x1 x5 x6 true)) else (majordomolaw11_LexerComments.j1 k x0 x1 x5 x6 true))
def majordomolaw11_LexerComments.j1 : Nat → ByteArray → ByteArray → Bool → List (S29) → Bool → Option (Bool)
  | 0, _, _, _, _, _ => none
  | k + 1, x0, x1, x5, x6, x45 => if x45 = true then (some x5) else (if 5 + x0.size ≤ 9223372036854775807 then (if ((⟨#[10, 32, 9, 13, 10]⟩ : ByteArray) ++ x0).size + 2 ≤ 9223372036854775807 then (if (((⟨#[10, 32, 9, 13, 10]⟩ : ByteArray) ++ x0) ++ (⟨#[10, 35]⟩ : ByteArray)).size + x1.size ≤ 9223372036854775807 then ((lexer_Lex.f k ((((⟨#[10, 32, 9, 13, 10]⟩ : ByteArray) ++ x0) ++ (⟨#[10, 35]⟩ : ByteArray)) ++ x1)).bind fun bt191 => (if bt191.2.2 = 0 then (majordomolaw11_LexerComments.j2 k x6 bt191.1 ((bt191.1.length : Int) != (x6.length : Int))) else (majordomolaw11_LexerComments.j2 k x6 bt191.1 true))) else (none)) else (none)) else (none))
def majordomolaw11_LexerComments.j2 : Nat → List (S29) → List (S29) → Bool → Option (Bool)
  | 0, _, _, _ => none
  | k + 1, x6, x10, x65 => if x65 = true then (some false) else (majordomolaw11_LexerComments.l1 k x6 x10 0)
def majordomolaw11_LexerComments.l1 : Nat → List (S29) → List (S29) → Int → Option (Bool)
  | 0, _, _, _ => none
  | k + 1, x6, x10, x13 => if x13 < (x6.length : Int) then (if 0 ≤ x13 then (if x13 < (x10.length : Int) then (if ((rd_T29 x10 x13).f0) = ((rd_T29 x6 x13).f0) then (if ((rd_T29 x10 x13).f1).toList = ((rd_T29 x6 x13).f1).toList then (if ((rd_T29 x10 x13).f2) = (wrap64 (((rd_T29 x6 x13).f2) + 5)) then (majordomolaw11_LexerComments.l1 k x6 x10 (wrap64 (x13 + 1))) else (some false)) else (some false)) else (some false)) else (none)) else (none)) else (some true)
end
def majordomolaw11_LexerComments.f (k : Nat) (a0 : ByteArray) (a1 : ByteArray) : Option (Bool) := (majordomolaw11_shown.f k).bind fun t185 => ((lexer_Lex.f k a0).bind fun bt186 => (majordomolaw11_LexerComments.l0 k a0 a1 t185 bt186.1 bt186.2.2 0))
theorem majordomolaw11_LexerComments.mono_l : ∀ k, (∀ y0 y1 y2 y3 y4 y5, LeO (majordomolaw11_LexerComments.l0 k y0 y1 y2 y3 y4 y5) (majordomolaw11_LexerComments.l0 (k + 1) y0 y1 y2 y3 y4 y5)) ∧ (∀ y0 y1 y2 y3 y4, LeO (majordomolaw11_LexerComments.j1 k y0 y1 y2 y3 y4) (majordomolaw11_LexerComments.j1 (k + 1) y0 y1 y2 y3 y4)) ∧ (∀ y0 y1 y2, LeO (majordomolaw11_LexerComments.j2 k y0 y1 y2) (majordomolaw11_LexerComments.j2 (k + 1) y0 y1 y2)) ∧ (∀ y0 y1 y2, LeO (majordomolaw11_LexerComments.l1 k y0 y1 y2) (majordomolaw11_LexerComments.l1 (k + 1) y0 y1 y2))
  | 0 => ⟨fun _ _ _ _ _ _ r h => by simp [majordomolaw11_LexerComments.l0] at h, fun _ _ _ _ _ r h => by simp [majordomolaw11_LexerComments.j1] at h, fun _ _ _ r h => by simp [majordomolaw11_LexerComments.j2] at h, fun _ _ _ r h => by simp [majordomolaw11_LexerComments.l1] at h⟩
  | k + 1 => by
    obtain ⟨ih0, ih1, ih2, ih3⟩ := majordomolaw11_LexerComments.mono_l k
    refine ⟨?_, ?_, ?_, ?_⟩
    · intro y0 y1 y2 y3 y4 y5
      unfold majordomolaw11_LexerComments.l0
      repeat' first
      | (with_reducible exact ih0 _ _ _ _ _ _)
      | (with_reducible exact ih1 _ _ _ _ _)
      | (with_reducible exact ih2 _ _ _)
      | (with_reducible exact ih3 _ _ _)
      | (with_reducible exact lexer_Lex.mono _ _)
      | (with_reducible exact majordomolaw11_shown.mono _)
      | (with_reducible exact LeO.refl _)
      | (with_reducible exact LeO.none _)
      | (with_reducible refine LeO.ite ?_ ?_)
      | (with_reducible refine LeO.bind ?_ (fun _ => ?_))
      | exact ih0 _ _ _ _ _ _
      | exact ih1 _ _ _ _ _
      | exact ih2 _ _ _
      | exact ih3 _ _ _
      | exact lexer_Lex.mono _ _
      | exact majordomolaw11_shown.mono _
      | exact LeO.none _
      | refine LeO.ite ?_ ?_
      | refine LeO.bind ?_ (fun _ => ?_)
    · intro y0 y1 y2 y3 y4
      unfold majordomolaw11_LexerComments.j1
      repeat' first
      | (with_reducible exact ih0 _ _ _ _ _ _)
      | (with_reducible exact ih1 _ _ _ _ _)
      | (with_reducible exact ih2 _ _ _)
      | (with_reducible exact ih3 _ _ _)
      | (with_reducible exact lexer_Lex.mono _ _)
      | (with_reducible exact majordomolaw11_shown.mono _)
      | (with_reducible exact LeO.refl _)
      | (with_reducible exact LeO.none _)
      | (with_reducible refine LeO.ite ?_ ?_)
      | (with_reducible refine LeO.bind ?_ (fun _ => ?_))
      | exact ih0 _ _ _ _ _ _
      | exact ih1 _ _ _ _ _
      | exact ih2 _ _ _
      | exact ih3 _ _ _
      | exact lexer_Lex.mono _ _
      | exact majordomolaw11_shown.mono _
      | exact LeO.none _
      | refine LeO.ite ?_ ?_
      | refine LeO.bind ?_ (fun _ => ?_)
    · intro y0 y1 y2
      unfold majordomolaw11_LexerComments.j2
      repeat' first
      | (with_reducible exact ih0 _ _ _ _ _ _)
      | (with_reducible exact ih1 _ _ _ _ _)
      | (with_reducible exact ih2 _ _ _)
      | (with_reducible exact ih3 _ _ _)
      | (with_reducible exact lexer_Lex.mono _ _)
      | (with_reducible exact majordomolaw11_shown.mono _)
      | (with_reducible exact LeO.refl _)
      | (with_reducible exact LeO.none _)
      | (with_reducible refine LeO.ite ?_ ?_)
      | (with_reducible refine LeO.bind ?_ (fun _ => ?_))
      | exact ih0 _ _ _ _ _ _
      | exact ih1 _ _ _ _ _
      | exact ih2 _ _ _
      | exact ih3 _ _ _
      | exact lexer_Lex.mono _ _
      | exact majordomolaw11_shown.mono _
      | exact LeO.none _
      | refine LeO.ite ?_ ?_
      | refine LeO.bind ?_ (fun _ => ?_)
    · intro y0 y1 y2
      unfold majordomolaw11_LexerComments.l1
      repeat' first
      | (with_reducible exact ih0 _ _ _ _ _ _)
      | (with_reducible exact ih1 _ _ _ _ _)
      | (with_reducible exact ih2 _ _ _)
      | (with_reducible exact ih3 _ _ _)
      | (with_reducible exact lexer_Lex.mono _ _)
      | (with_reducible exact majordomolaw11_shown.mono _)
      | (with_reducible exact LeO.refl _)
      | (with_reducible exact LeO.none _)
      | (with_reducible refine LeO.ite ?_ ?_)
      | (with_reducible refine LeO.bind ?_ (fun _ => ?_))
      | exact ih0 _ _ _ _ _ _
      | exact ih1 _ _ _ _ _
      | exact ih2 _ _ _
      | exact ih3 _ _ _
      | exact lexer_Lex.mono _ _
      | exact majordomolaw11_shown.mono _
      | exact LeO.none _
      | refine LeO.ite ?_ ?_
      | refine LeO.bind ?_ (fun _ => ?_)
theorem majordomolaw11_LexerComments.mono : ∀ a0 a1 k, LeO (majordomolaw11_LexerComments.f k a0 a1) (majordomolaw11_LexerComments.f (k + 1) a0 a1) := by
  intro a0 a1 k
  obtain ⟨ih0, ih1, ih2, ih3⟩ := majordomolaw11_LexerComments.mono_l k
  unfold majordomolaw11_LexerComments.f
  repeat' first
      | (with_reducible exact ih0 _ _ _ _ _ _)
      | (with_reducible exact ih1 _ _ _ _ _)
      | (with_reducible exact ih2 _ _ _)
      | (with_reducible exact ih3 _ _ _)
      | (with_reducible exact lexer_Lex.mono _ _)
      | (with_reducible exact majordomolaw11_shown.mono _)
      | (with_reducible exact LeO.refl _)
      | (with_reducible exact LeO.none _)
      | (with_reducible refine LeO.ite ?_ ?_)
      | (with_reducible refine LeO.bind ?_ (fun _ => ?_))
      | exact ih0 _ _ _ _ _ _
      | exact ih1 _ _ _ _ _
      | exact ih2 _ _ _
      | exact ih3 _ _ _
      | exact lexer_Lex.mono _ _
      | exact majordomolaw11_shown.mono _
      | exact LeO.none _
      | refine LeO.ite ?_ ?_
      | refine LeO.bind ?_ (fun _ => ?_)
set_option maxHeartbeats 8000000 in
set_option maxRecDepth 100000 in
theorem majordomolaw11_LexerComments.calls (k : Nat) (a0 : ByteArray) (a1 : ByteArray) (r : Bool) (w : World) (hamb : Amb w) (h : majordomolaw11_LexerComments.f k a0 a1 = some r) :
    Calls Tryd.prog 5 #[.string a0, .string a1] w fun e w' => e = .returned (.bool r) ∧ Below w.heap.size w w' := by
  have HAMB := Aside0.mk hamb
  clear hamb
  have HB := Aside0.mk (Below.refl w.heap.size w)
  have H : ((majordomolaw11_shown.f k).bind fun t185 => ((lexer_Lex.f k a0).bind fun bt186 => (majordomolaw11_LexerComments.l0 k a0 a1 t185 bt186.1 bt186.2.2 0))) = some r := h
  clear h
  replace H := Option.bind_eq_some_iff.mp H
  obtain ⟨t185, A30, H⟩ := H
  replace H : ((lexer_Lex.f k a0).bind fun bt186 => (majordomolaw11_LexerComments.l0 k a0 a1 t185 bt186.1 bt186.2.2 0)) = some r := H
  have A3 := Aside0.mk A30
  clear A30
  replace H := Option.bind_eq_some_iff.mp H
  obtain ⟨⟨t186, t187, t188⟩, A40, H⟩ := H
  replace H : (majordomolaw11_LexerComments.l0 k a0 a1 t185 t186 t188 0) = some r := H
  have A4 := Aside0.mk A40
  clear A40
  have H' := Aside0.mk H
  clear H
  go_enter Tryd.func5, Tryd.ntmps5
  go_wp2_with (first | (go_at_call 8; (with_reducible refine (majordomolaw11_shown.calls k  t185 _ ?side1 A3.out).mono ?_); (case side1 => first | exact Amb.below HAMB.out (by repeat (first | (with_reducible first | exact HB.out | apply below_alloc | apply pw_below_drewN | apply below_drew1) | exact HB.out)) | exact Amb.drawn HAMB.out (by repeat (first | exact Drawn0.refl _ | apply Drawn0.step))); rintro e w5 ⟨rfl, hb⟩; have n0_ := Aside0.mk (below_step (by repeat (first | (with_reducible first | exact HB.out | apply below_alloc | apply pw_below_drewN | apply below_drew1) | exact HB.out)) hb); clear HB; have HB := n0_; clear n0_; (try clear hb); (try clear hb2); (try clear hk); (try clear hi)) | (go_at_call 9; (with_reducible refine (lexer_Lex.calls k a0 t186 t187 t188 _ ?side1 A4.out).mono ?_); (case side1 => first | exact Amb.below HAMB.out (by repeat (first | (with_reducible first | exact HB.out | apply below_alloc | apply pw_below_drewN | apply below_drew1) | exact HB.out)) | exact Amb.drawn HAMB.out (by repeat (first | exact Drawn0.refl _ | apply Drawn0.step))); rintro e w6 ⟨v189, rfl, ho0, hb⟩; have n0_ := Aside0.mk (Kd.R_lower ho0 (below_size (by repeat (first | (with_reducible first | exact HB.out | apply below_alloc | apply pw_below_drewN | apply below_drew1) | exact HB.out)))); have n1_ := Aside0.mk (below_step (by repeat (first | (with_reducible first | exact HB.out | apply below_alloc | apply pw_below_drewN | apply below_drew1) | exact HB.out)) hb); clear HB; have HO190 := n0_; have HB := n1_; clear n0_ n1_; (try clear hb); (try clear hb2); (try clear hk); (try clear hi); (try clear ho0)))
  repeat (go_quiet (first | (go_at_call 8; (with_reducible refine (majordomolaw11_shown.calls k  t185 _ ?side1 A3.out).mono ?_); (case side1 => first | exact Amb.below HAMB.out (by repeat (first | (with_reducible first | exact HB.out | apply below_alloc | apply pw_below_drewN | apply below_drew1) | exact HB.out)) | exact Amb.drawn HAMB.out (by repeat (first | exact Drawn0.refl _ | apply Drawn0.step))); rintro e w5 ⟨rfl, hb⟩; have n0_ := Aside0.mk (below_step (by repeat (first | (with_reducible first | exact HB.out | apply below_alloc | apply pw_below_drewN | apply below_drew1) | exact HB.out)) hb); clear HB; have HB := n0_; clear n0_; (try clear hb); (try clear hb2); (try clear hk); (try clear hi)) | (go_at_call 9; (with_reducible refine (lexer_Lex.calls k a0 t186 t187 t188 _ ?side1 A4.out).mono ?_); (case side1 => first | exact Amb.below HAMB.out (by repeat (first | (with_reducible first | exact HB.out | apply below_alloc | apply pw_below_drewN | apply below_drew1) | exact HB.out)) | exact Amb.drawn HAMB.out (by repeat (first | exact Drawn0.refl _ | apply Drawn0.step))); rintro e w6 ⟨v189, rfl, ho0, hb⟩; have n0_ := Aside0.mk (Kd.R_lower ho0 (below_size (by repeat (first | (with_reducible first | exact HB.out | apply below_alloc | apply pw_below_drewN | apply below_drew1) | exact HB.out)))); have n1_ := Aside0.mk (below_step (by repeat (first | (with_reducible first | exact HB.out | apply below_alloc | apply pw_below_drewN | apply below_drew1) | exact HB.out)) hb); clear HB; have HO190 := n0_; have HB := n1_; clear n0_ n1_; (try clear hb); (try clear hb2); (try clear hk); (try clear hi); (try clear ho0))); try go_wp2_with (first | (go_at_call 8; (with_reducible refine (majordomolaw11_shown.calls k  t185 _ ?side1 A3.out).mono ?_); (case side1 => first | exact Amb.below HAMB.out (by repeat (first | (with_reducible first | exact HB.out | apply below_alloc | apply pw_below_drewN | apply below_drew1) | exact HB.out)) | exact Amb.drawn HAMB.out (by repeat (first | exact Drawn0.refl _ | apply Drawn0.step))); rintro e w5 ⟨rfl, hb⟩; have n0_ := Aside0.mk (below_step (by repeat (first | (with_reducible first | exact HB.out | apply below_alloc | apply pw_below_drewN | apply below_drew1) | exact HB.out)) hb); clear HB; have HB := n0_; clear n0_; (try clear hb); (try clear hb2); (try clear hk); (try clear hi)) | (go_at_call 9; (with_reducible refine (lexer_Lex.calls k a0 t186 t187 t188 _ ?side1 A4.out).mono ?_); (case side1 => first | exact Amb.below HAMB.out (by repeat (first | (with_reducible first | exact HB.out | apply below_alloc | apply pw_below_drewN | apply below_drew1) | exact HB.out)) | exact Amb.drawn HAMB.out (by repeat (first | exact Drawn0.refl _ | apply Drawn0.step))); rintro e w6 ⟨v189, rfl, ho0, hb⟩; have n0_ := Aside0.mk (Kd.R_lower ho0 (below_size (by repeat (first | (with_reducible first | exact HB.out | apply below_alloc | apply pw_below_drewN | apply below_drew1) | exact HB.out)))); have n1_ := Aside0.mk (below_step (by repeat (first | (with_reducible first | exact HB.out | apply below_alloc | apply pw_below_drewN | apply below_drew1) | exact HB.out)) hb); clear HB; have HO190 := n0_; have HB := n1_; clear n0_ n1_; (try clear hb); (try clear hb2); (try clear hk); (try clear hi); (try clear ho0))))
  go_loopg [9] k (fun kq v9 w' => ∃ (x9_1 : Int), v9 = .int .i64 x9_1 ∧ Aside0 (majordomolaw11_LexerComments.l0 kq a0 a1 t185 t186 t188 x9_1 = some r) ∧ Aside0 (kq ≤ k) ∧ Aside0 (Kd.R k29 29 w' w.heap.size (fun _ => True) v189 t186) ∧ Aside0 (Below w.heap.size w w'))
  case atStart => exact ⟨(0), (by first | rfl | (simp; done) | (simp [*]; done)), H', ⟨Nat.le_refl _⟩, ⟨by (with_reducible repeat (first | apply Kd.R_alloc | apply Kd.R_drewN | apply Kd.R_drew)); exact HO190.out⟩, ⟨by repeat (first | (with_reducible first | exact HB.out | apply below_alloc | apply pw_below_drewN | apply below_drew1) | exact HB.out)⟩⟩
  case round =>
    clear H'
    try clear p2
    try clear c5
    obtain ⟨x9_1, rfl, HA, HK1, HO_6, HB⟩ := hrel
    cases gk with
    | zero => exact absurd HA.out (by simp [majordomolaw11_LexerComments.l0])
    | succ k1 =>
      have H := HA.out
      clear HA
      simp only [majordomolaw11_LexerComments.l0] at H
      by_cases c7 : x9_1 < (a1.size : Int)
      · rw [if_pos c7] at H
        have c7b0 : decide (x9_1 < (a1.size : Int)) = true := decide_eq_true c7
        clear c7
        by_cases c8 : 0 ≤ x9_1
        · rw [if_pos c8] at H
          have c8b0 : decide (0 ≤ x9_1) = true := decide_eq_true c8
          clear c8
          by_cases c10 : (bt a1 x9_1) = 10
          · rw [if_pos c10] at H
            have c10b0 : ((bt a1 x9_1) == 10) = true := beq_iff_eq.mpr c10
            have c10b1 : ((bt a1 x9_1) != 10) = false := bne_eq_false_iff_eq.mpr c10
            clear c10
            obtain rfl := Option.some.inj H
            have p9 : 0 ≤ (x9_1 : Int) := of_decide_eq_true (by first | (with_reducible assumption) | assumption)
            have q9 : x9_1 < (a1.size : Int) := of_decide_eq_true (by first | (with_reducible assumption) | assumption)
            have hx9 := bt_at a1 x9_1
            replace p9 := eq_true p9
            replace q9 := eq_true q9
            go_wp2
            repeat (go_quiet (fail); try go_wp2)
            go_ret
            exact ⟨by first | rfl | (simp [errW_none, errW_some] <;> rfl) | (simp [*, errW_none, errW_some] <;> rfl), by repeat (first | (with_reducible first | exact HB.out | apply below_alloc | apply pw_below_drewN | apply below_drew1) | exact HB.out)⟩
          · rw [if_neg c10] at H
            have c10b0 : ((bt a1 x9_1) == 10) = false := beq_eq_false_iff_ne.mpr c10
            have c10b1 : ((bt a1 x9_1) != 10) = true := bne_iff_ne.mpr c10
            have H' := Aside0.mk H
            clear H
            have p9 : 0 ≤ (x9_1 : Int) := of_decide_eq_true (by first | (with_reducible assumption) | assumption)
            have q9 : x9_1 < (a1.size : Int) := of_decide_eq_true (by first | (with_reducible assumption) | assumption)
            have hx9 := bt_at a1 x9_1
            replace p9 := eq_true p9
            replace q9 := eq_true q9
            go_wp2
            repeat (go_quiet (fail); try go_wp2)
            go_roundg k1
            case measure => have := HK1.out; omega
            case rel => exact ⟨(wrap64 (x9_1 + 1)), (by first | rfl | (simp; done) | (simp [*]; done)), H', ⟨by have := HK1.out; omega⟩, ⟨by (with_reducible repeat (first | apply Kd.R_alloc | apply Kd.R_drewN | apply Kd.R_drew)); exact HO_6.out⟩, ⟨by repeat (first | (with_reducible first | exact HB.out | apply below_alloc | apply pw_below_drewN | apply below_drew1) | exact HB.out)⟩⟩
        · rw [if_neg c8] at H
          exact absurd H (by simp)
      · rw [if_neg c7] at H
        have c7b0 : decide (x9_1 < (a1.size : Int)) = false := decide_eq_false c7
        clear c7
        have HC11 := Aside0.mk H
        clear H
        go_upto_region 8 with (fail)
        repeat (go_quiet (fail); go_upto_region 8 with (fail))
        go_cut [45] (fun v45 wc => ∃ (kq : Nat) (x45_10 : Bool), v45 = .bool x45_10 ∧ Aside0 (majordomolaw11_LexerComments.j1 kq a0 a1 t185 t186 x45_10 = some r) ∧ Aside0 (kq ≤ k1) ∧ Aside0 (Kd.R k29 29 wc w.heap.size (fun _ => True) v189 t186) ∧ Aside0 (Below w.heap.size w wc))
        case first =>
          have H := HC11.out
          clear HC11
          by_cases c12 : t185 = true
          · subst c12
            have H1 : (if t188 = 0 then (majordomolaw11_LexerComments.j1 k1 a0 a1 true t186 (decide ((wrap64 ((a0.size : Int) + (a1.size : Int))) > 65527))) else (majordomolaw11_LexerComments.j1 k1 a0 a1 true t186 true)) = some r := by rw [if_pos rfl] at H; exact H
            clear H
            have H := H1
            clear H1
            by_cases c13 : t188 = 0
            · rw [if_pos c13] at H
              have c13b0 : (t188 == 0) = true := beq_iff_eq.mpr c13
              have c13b1 : (t188 != 0) = false := bne_eq_false_iff_eq.mpr c13
              clear c13
              (first | rw [c13b0] | (simp only [i64_w, i32_w]; rw [c13b0]) | skip)
              have H' := Aside0.mk H
              clear H
              go_wp2
              repeat (go_quiet (fail); try go_wp2)
              go_meet
              case rel => exact ⟨_, (decide ((wrap64 ((a0.size : Int) + (a1.size : Int))) > 65527)), (by first | rfl | (simp; done) | (simp [*]; done)), H', ⟨by have := HK1.out; first | omega | exact Nat.le_refl _⟩, ⟨by (with_reducible repeat (first | apply Kd.R_alloc | apply Kd.R_drewN | apply Kd.R_drew)); exact HO_6.out⟩, ⟨by repeat (first | (with_reducible first | exact HB.out | apply below_alloc | apply pw_below_drewN | apply below_drew1) | exact HB.out)⟩⟩
            · rw [if_neg c13] at H
              have c13b0 : (t188 == 0) = false := beq_eq_false_iff_ne.mpr c13
              have c13b1 : (t188 != 0) = true := bne_iff_ne.mpr c13
              (first | rw [c13b0] | (simp only [i64_w, i32_w]; rw [c13b0]) | skip)
              have H' := Aside0.mk H
              clear H
              go_wp2
              repeat (go_quiet (fail); try go_wp2)
              go_meet
              case rel => exact ⟨_, (true), (by first | rfl | (simp; done) | (simp [*]; done)), H', ⟨by have := HK1.out; first | omega | exact Nat.le_refl _⟩, ⟨by (with_reducible repeat (first | apply Kd.R_alloc | apply Kd.R_drewN | apply Kd.R_drew)); exact HO_6.out⟩, ⟨by repeat (first | (with_reducible first | exact HB.out | apply below_alloc | apply pw_below_drewN | apply below_drew1) | exact HB.out)⟩⟩
          · replace c12 := Bool.eq_false_iff.mpr c12
            subst c12
            have H1 : (majordomolaw11_LexerComments.j1 k1 a0 a1 false t186 true) = some r := by rw [if_neg (show ¬ (false = true) by decide)] at H; exact H
            clear H
            have H := H1
            clear H1
            have H' := Aside0.mk H
            clear H
            go_wp2
            repeat (go_quiet (fail); try go_wp2)
            go_meet
            case rel => exact ⟨_, (true), (by first | rfl | (simp; done) | (simp [*]; done)), H', ⟨by have := HK1.out; first | omega | exact Nat.le_refl _⟩, ⟨by (with_reducible repeat (first | apply Kd.R_alloc | apply Kd.R_drewN | apply Kd.R_drew)); exact HO_6.out⟩, ⟨by repeat (first | (with_reducible first | exact HB.out | apply below_alloc | apply pw_below_drewN | apply below_drew1) | exact HB.out)⟩⟩
        case rest =>
          clear HC11
          try clear c1
          try clear p2
          try clear c5
          try clear p6
          try clear c7
          try clear c7b0
          try clear c8
          try clear c8b0
          try clear p9
          try clear q9
          try clear hx9
          try clear c10
          try clear c10b0
          try clear c10b1
          try clear c12
          try clear c13
          try clear c13b0
          try clear c13b1
          try clear p2
          try clear p9
          try clear q9
          obtain ⟨kq, x45_10, rfl, HA, HJ10, HO_6, HB⟩ := hcut
          cases kq with
          | zero => exact absurd HA.out (by simp [majordomolaw11_LexerComments.j1])
          | succ kj10 =>
            have H := HA.out
            clear HA
            simp only [majordomolaw11_LexerComments.j1] at H
            by_cases c14 : x45_10 = true
            · subst c14
              have H1 : (some t185) = some r := by rw [if_pos rfl] at H; exact H
              clear H
              have H := H1
              clear H1
              obtain rfl := Option.some.inj H
              go_wp2
              repeat (go_quiet (fail); try go_wp2)
              go_ret
              exact ⟨by first | rfl | (simp [errW_none, errW_some] <;> rfl) | (simp [*, errW_none, errW_some] <;> rfl), by repeat (first | (with_reducible first | exact HB.out | apply below_alloc | apply pw_below_drewN | apply below_drew1) | exact HB.out)⟩
            · replace c14 := Bool.eq_false_iff.mpr c14
              subst c14
              have H1 : (if 5 + a0.size ≤ 9223372036854775807 then (if ((⟨#[10, 32, 9, 13, 10]⟩ : ByteArray) ++ a0).size + 2 ≤ 9223372036854775807 then (if (((⟨#[10, 32, 9, 13, 10]⟩ : ByteArray) ++ a0) ++ (⟨#[10, 35]⟩ : ByteArray)).size + a1.size ≤ 9223372036854775807 then ((lexer_Lex.f kj10 ((((⟨#[10, 32, 9, 13, 10]⟩ : ByteArray) ++ a0) ++ (⟨#[10, 35]⟩ : ByteArray)) ++ a1)).bind fun bt191 => (if bt191.2.2 = 0 then (majordomolaw11_LexerComments.j2 kj10 t186 bt191.1 ((bt191.1.length : Int) != (t186.length : Int))) else (majordomolaw11_LexerComments.j2 kj10 t186 bt191.1 true))) else (none)) else (none)) else (none)) = some r := by rw [if_neg (show ¬ (false = true) by decide)] at H; exact H
              clear H
              have H := H1
              clear H1
              by_cases c15 : 5 + a0.size ≤ 9223372036854775807
              · rw [if_pos c15] at H
                have c15b0 := eq_true c15
                have c15b1 : decide (5 + a0.size ≤ 9223372036854775807) = true := decide_eq_true c15
                try have c15b2 : (9223372036854775807 < 5 + a0.size) = False := eq_false (Nat.not_lt.2 c15)
                by_cases c16 : ((⟨#[10, 32, 9, 13, 10]⟩ : ByteArray) ++ a0).size + 2 ≤ 9223372036854775807
                · rw [if_pos c16] at H
                  have c16b0 := eq_true c16
                  have c16b1 : decide (((⟨#[10, 32, 9, 13, 10]⟩ : ByteArray) ++ a0).size + 2 ≤ 9223372036854775807) = true := decide_eq_true c16
                  try have c16b3 : (9223372036854775807 < 5 + a0.size + 2) = False := eq_false (Nat.not_lt.2 (by have h_ := c16; simp only [ByteArray.size_append] at h_; exact h_))
                  try have c16b2 : (9223372036854775807 < ((⟨#[10, 32, 9, 13, 10]⟩ : ByteArray) ++ a0).size + 2) = False := eq_false (Nat.not_lt.2 c16)
                  by_cases c17 : (((⟨#[10, 32, 9, 13, 10]⟩ : ByteArray) ++ a0) ++ (⟨#[10, 35]⟩ : ByteArray)).size + a1.size ≤ 9223372036854775807
                  · rw [if_pos c17] at H
                    have c17b0 := eq_true c17
                    have c17b1 : decide ((((⟨#[10, 32, 9, 13, 10]⟩ : ByteArray) ++ a0) ++ (⟨#[10, 35]⟩ : ByteArray)).size + a1.size ≤ 9223372036854775807) = true := decide_eq_true c17
                    try have c17b3 : (9223372036854775807 < 5 + a0.size + 2 + a1.size) = False := eq_false (Nat.not_lt.2 (by have h_ := c17; simp only [ByteArray.size_append] at h_; exact h_))
                    try have c17b2 : (9223372036854775807 < (((⟨#[10, 32, 9, 13, 10]⟩ : ByteArray) ++ a0) ++ (⟨#[10, 35]⟩ : ByteArray)).size + a1.size) = False := eq_false (Nat.not_lt.2 c17)
                    replace H := Option.bind_eq_some_iff.mp H
                    obtain ⟨⟨t191, t192, t193⟩, A180, H⟩ := H
                    replace H : (if t193 = 0 then (majordomolaw11_LexerComments.j2 kj10 t186 t191 ((t191.length : Int) != (t186.length : Int))) else (majordomolaw11_LexerComments.j2 kj10 t186 t191 true)) = some r := H
                    have A18 := Aside0.mk A180
                    clear A180
                    have HC19 := Aside0.mk H
                    clear H
                    go_upto_region 11 with (first | (go_at_call 9; (with_reducible refine (lexer_Lex.calls kj10 ((((⟨#[10, 32, 9, 13, 10]⟩ : ByteArray) ++ a0) ++ (⟨#[10, 35]⟩ : ByteArray)) ++ a1) t191 t192 t193 _ ?side1 A18.out).mono ?_); (case side1 => first | exact Amb.below HAMB.out (by repeat (first | (with_reducible first | exact HB.out | apply below_alloc | apply pw_below_drewN | apply below_drew1) | exact HB.out)) | exact Amb.drawn HAMB.out (by repeat (first | exact Drawn0.refl _ | apply Drawn0.step))); rintro e w20 ⟨v194, rfl, ho0, hb⟩; have n0_ := Aside0.mk (Kd.R_elder' (by (with_reducible repeat (first | apply Kd.R_alloc | apply Kd.R_drewN | apply Kd.R_drew)); exact HO_6.out) (Kd.R_base ho0) hb); have n1_ := Aside0.mk (Kd.R_lower (Kd.R_new' ho0 (Kd.R_lt (by (with_reducible repeat (first | apply Kd.R_alloc | apply Kd.R_drewN | apply Kd.R_drew)); exact HO_6.out))) (below_size (by repeat (first | (with_reducible first | exact HB.out | apply below_alloc | apply pw_below_drewN | apply below_drew1) | exact HB.out)))); have n2_ := Aside0.mk (below_step (by repeat (first | (with_reducible first | exact HB.out | apply below_alloc | apply pw_below_drewN | apply below_drew1) | exact HB.out)) hb); clear HO_6; clear HB; have HO_6 := n0_; have HO195 := n1_; have HB := n2_; clear n0_ n1_ n2_; (try clear hb); (try clear hb2); (try clear hk); (try clear hi); (try clear ho0)))
                    repeat (go_quiet (first | (go_at_call 9; (with_reducible refine (lexer_Lex.calls kj10 ((((⟨#[10, 32, 9, 13, 10]⟩ : ByteArray) ++ a0) ++ (⟨#[10, 35]⟩ : ByteArray)) ++ a1) t191 t192 t193 _ ?side1 A18.out).mono ?_); (case side1 => first | exact Amb.below HAMB.out (by repeat (first | (with_reducible first | exact HB.out | apply below_alloc | apply pw_below_drewN | apply below_drew1) | exact HB.out)) | exact Amb.drawn HAMB.out (by repeat (first | exact Drawn0.refl _ | apply Drawn0.step))); rintro e w20 ⟨v194, rfl, ho0, hb⟩; have n0_ := Aside0.mk (Kd.R_elder' (by (with_reducible repeat (first | apply Kd.R_alloc | apply Kd.R_drewN | apply Kd.R_drew)); exact HO_6.out) (Kd.R_base ho0) hb); have n1_ := Aside0.mk (Kd.R_lower (Kd.R_new' ho0 (Kd.R_lt (by (with_reducible repeat (first | apply Kd.R_alloc | apply Kd.R_drewN | apply Kd.R_drew)); exact HO_6.out))) (below_size (by repeat (first | (with_reducible first | exact HB.out | apply below_alloc | apply pw_below_drewN | apply below_drew1) | exact HB.out)))); have n2_ := Aside0.mk (below_step (by repeat (first | (with_reducible first | exact HB.out | apply below_alloc | apply pw_below_drewN | apply below_drew1) | exact HB.out)) hb); clear HO_6; clear HB; have HO_6 := n0_; have HO195 := n1_; have HB := n2_; clear n0_ n1_ n2_; (try clear hb); (try clear hb2); (try clear hk); (try clear hi); (try clear ho0))); go_upto_region 11 with (first | (go_at_call 9; (with_reducible refine (lexer_Lex.calls kj10 ((((⟨#[10, 32, 9, 13, 10]⟩ : ByteArray) ++ a0) ++ (⟨#[10, 35]⟩ : ByteArray)) ++ a1) t191 t192 t193 _ ?side1 A18.out).mono ?_); (case side1 => first | exact Amb.below HAMB.out (by repeat (first | (with_reducible first | exact HB.out | apply below_alloc | apply pw_below_drewN | apply below_drew1) | exact HB.out)) | exact Amb.drawn HAMB.out (by repeat (first | exact Drawn0.refl _ | apply Drawn0.step))); rintro e w20 ⟨v194, rfl, ho0, hb⟩; have n0_ := Aside0.mk (Kd.R_elder' (by (with_reducible repeat (first | apply Kd.R_alloc | apply Kd.R_drewN | apply Kd.R_drew)); exact HO_6.out) (Kd.R_base ho0) hb); have n1_ := Aside0.mk (Kd.R_lower (Kd.R_new' ho0 (Kd.R_lt (by (with_reducible repeat (first | apply Kd.R_alloc | apply Kd.R_drewN | apply Kd.R_drew)); exact HO_6.out))) (below_size (by repeat (first | (with_reducible first | exact HB.out | apply below_alloc | apply pw_below_drewN | apply below_drew1) | exact HB.out)))); have n2_ := Aside0.mk (below_step (by repeat (first | (with_reducible first | exact HB.out | apply below_alloc | apply pw_below_drewN | apply below_drew1) | exact HB.out)) hb); clear HO_6; clear HB; have HO_6 := n0_; have HO195 := n1_; have HB := n2_; clear n0_ n1_ n2_; (try clear hb); (try clear hb2); (try clear hk); (try clear hi); (try clear ho0))))
                    (try simp only [Act.put, List.setIfInBounds_toArray, List.set_cons_zero, List.set_cons_succ])
                    go_cut [65] (fun v65 wc => ∃ (kq : Nat) (x65_18 : Bool), v65 = .bool x65_18 ∧ Aside0 (majordomolaw11_LexerComments.j2 kq t186 t191 x65_18 = some r) ∧ Aside0 (kq ≤ kj10) ∧ Aside0 (Kd.R k29 29 wc w.heap.size (fun k_ => some k_ ≠ (v194 : Value).ownBlock) v189 t186) ∧ Aside0 (Kd.R k29 29 wc w.heap.size (fun k_ => some k_ ≠ (v189 : Value).ownBlock) v194 t191) ∧ Aside0 (Below w.heap.size w wc))
                    case first =>
                      have H := HC19.out
                      clear HC19
                      by_cases c21 : t193 = 0
                      · rw [if_pos c21] at H
                        have c21b0 : (t193 == 0) = true := beq_iff_eq.mpr c21
                        have c21b1 : (t193 != 0) = false := bne_eq_false_iff_eq.mpr c21
                        clear c21
                        (first | rw [c21b0] | (simp only [i64_w, i32_w]; rw [c21b0]) | skip)
                        have H' := Aside0.mk H
                        clear H
                        obtain ⟨Ao22, co22, eo22⟩ := Kd.R_slice HO195.out
                        subst eo22
                        obtain ⟨Ao23, co23, eo23⟩ := Kd.R_slice HO_6.out
                        subst eo23
                        go_wp2
                        repeat (go_quiet (fail); try go_wp2)
                        go_meet
                        case rel => exact ⟨_, (((t191.length : Int) != (t186.length : Int))), (by first | rfl | (simp; done) | (simp [*]; done)), H', ⟨by have := HK1.out; have := HJ10.out; first | omega | exact Nat.le_refl _⟩, ⟨by (with_reducible repeat (first | apply Kd.R_alloc | apply Kd.R_drewN | apply Kd.R_drew)); exact Kd.R_mono HO_6.out (fun _ hk => hk.2)⟩, ⟨by (with_reducible repeat (first | apply Kd.R_alloc | apply Kd.R_drewN | apply Kd.R_drew)); exact Kd.R_mono HO195.out (fun _ hk => hk.2)⟩, ⟨by repeat (first | (with_reducible first | exact HB.out | apply below_alloc | apply pw_below_drewN | apply below_drew1) | exact HB.out)⟩⟩
                      · rw [if_neg c21] at H
                        have c21b0 : (t193 == 0) = false := beq_eq_false_iff_ne.mpr c21
                        have c21b1 : (t193 != 0) = true := bne_iff_ne.mpr c21
                        (first | rw [c21b0] | (simp only [i64_w, i32_w]; rw [c21b0]) | skip)
                        have H' := Aside0.mk H
                        clear H
                        go_wp2
                        repeat (go_quiet (fail); try go_wp2)
                        go_meet
                        case rel => exact ⟨_, (true), (by first | rfl | (simp; done) | (simp [*]; done)), H', ⟨by have := HK1.out; have := HJ10.out; first | omega | exact Nat.le_refl _⟩, ⟨by (with_reducible repeat (first | apply Kd.R_alloc | apply Kd.R_drewN | apply Kd.R_drew)); exact Kd.R_mono HO_6.out (fun _ hk => hk.2)⟩, ⟨by (with_reducible repeat (first | apply Kd.R_alloc | apply Kd.R_drewN | apply Kd.R_drew)); exact Kd.R_mono HO195.out (fun _ hk => hk.2)⟩, ⟨by repeat (first | (with_reducible first | exact HB.out | apply below_alloc | apply pw_below_drewN | apply below_drew1) | exact HB.out)⟩⟩
                    case rest =>
                      clear HC19
                      try clear c1
                      try clear c2
                      try clear p2
                      try clear c5
                      try clear p6
                      try clear c7
                      try clear c7b0
                      try clear c8
                      try clear c8b0
                      try clear p9
                      try clear q9
                      try clear hx9
                      try clear c10
                      try clear c10b0
                      try clear c10b1
                      try clear c12
                      try clear c13
                      try clear c13b0
                      try clear c13b1
                      try clear c14
                      try clear c15
                      try clear c15b0
                      try clear c15b1
                      try clear c15b2
                      try clear c16
                      try clear c16b0
                      try clear c16b1
                      try clear c16b2
                      try clear c17
                      try clear c17b0
                      try clear c17b1
                      try clear c17b2
                      try clear c21
                      try clear c21b0
                      try clear c21b1
                      try clear p2
                      try clear p6
                      try clear p9
                      try clear q9
                      obtain ⟨kq, x65_18, rfl, HA, HJ18, HO_6, HO_10, HB⟩ := hcut
                      cases kq with
                      | zero => exact absurd HA.out (by simp [majordomolaw11_LexerComments.j2])
                      | succ kj18 =>
                        have H := HA.out
                        clear HA
                        simp only [majordomolaw11_LexerComments.j2] at H
                        by_cases c24 : x65_18 = true
                        · subst c24
                          have H1 : (some false) = some r := by rw [if_pos rfl] at H; exact H
                          clear H
                          have H := H1
                          clear H1
                          obtain rfl := Option.some.inj H
                          go_wp2
                          repeat (go_quiet (fail); try go_wp2)
                          go_ret
                          exact ⟨by first | rfl | (simp [errW_none, errW_some] <;> rfl) | (simp [*, errW_none, errW_some] <;> rfl), by repeat (first | (with_reducible first | exact HB.out | apply below_alloc | apply pw_below_drewN | apply below_drew1) | exact HB.out)⟩
                        · replace c24 := Bool.eq_false_iff.mpr c24
                          subst c24
                          have H1 : (majordomolaw11_LexerComments.l1 kj18 t186 t191 0) = some r := by rw [if_neg (show ¬ (false = true) by decide)] at H; exact H
                          clear H
                          have H := H1
                          clear H1
                          have H' := Aside0.mk H
                          clear H
                          go_wp2
                          repeat (go_quiet (fail); try go_wp2)
                          go_loopg [13] kj18 (fun kq v13 w' => ∃ (x13_4 : Int), v13 = .int .i64 x13_4 ∧ Aside0 (majordomolaw11_LexerComments.l1 kq t186 t191 x13_4 = some r) ∧ Aside0 (kq ≤ kj18) ∧ Aside0 (Kd.R k29 29 w' w.heap.size (fun k_ => some k_ ≠ (v194 : Value).ownBlock) v189 t186) ∧ Aside0 (Kd.R k29 29 w' w.heap.size (fun k_ => some k_ ≠ (v189 : Value).ownBlock) v194 t191) ∧ Aside0 (Below w.heap.size w w'))
                          case atStart => exact ⟨(0), (by first | rfl | (simp; done) | (simp [*]; done)), H', ⟨Nat.le_refl _⟩, ⟨by (with_reducible repeat (first | apply Kd.R_alloc | apply Kd.R_drewN | apply Kd.R_drew)); exact HO_6.out⟩, ⟨by (with_reducible repeat (first | apply Kd.R_alloc | apply Kd.R_drewN | apply Kd.R_drew)); exact HO_10.out⟩, ⟨by repeat (first | (with_reducible first | exact HB.out | apply below_alloc | apply pw_below_drewN | apply below_drew1) | exact HB.out)⟩⟩
                          case round =>
                            clear H'
                            try clear c1
                            try clear c2
                            try clear p2
                            try clear c5
                            try clear p6
                            try clear c7
                            try clear c7b0
                            try clear c8
                            try clear c8b0
                            try clear p9
                            try clear q9
                            try clear hx9
                            try clear c10
                            try clear c10b0
                            try clear c10b1
                            try clear c12
                            try clear c13
                            try clear c13b0
                            try clear c13b1
                            try clear c14
                            try clear c15
                            try clear c15b0
                            try clear c15b1
                            try clear c15b2
                            try clear c16
                            try clear c16b0
                            try clear c16b1
                            try clear c16b2
                            try clear c17
                            try clear c17b0
                            try clear c17b1
                            try clear c17b2
                            try clear c21
                            try clear c21b0
                            try clear c21b1
                            try clear c24
                            try clear p2
                            try clear p6
                            try clear p9
                            try clear q9
                            obtain ⟨x13_4, rfl, HA, HK4, HO_6, HO_10, HB⟩ := hrel
                            cases gk with
                            | zero => exact absurd HA.out (by simp [majordomolaw11_LexerComments.l1])
                            | succ k4 =>
                              have H := HA.out
                              clear HA
                              simp only [majordomolaw11_LexerComments.l1] at H
                              by_cases c25 : x13_4 < (t186.length : Int)
                              · rw [if_pos c25] at H
                                have c25b0 : decide (x13_4 < (t186.length : Int)) = true := decide_eq_true c25
                                clear c25
                                by_cases c26 : 0 ≤ x13_4
                                · rw [if_pos c26] at H
                                  have c26b0 : decide (0 ≤ x13_4) = true := decide_eq_true c26
                                  clear c26
                                  by_cases c27 : x13_4 < (t191.length : Int)
                                  · rw [if_pos c27] at H
                                    have c27b0 : decide (x13_4 < (t191.length : Int)) = true := decide_eq_true c27
                                    clear c27
                                    by_cases c28 : ((rd_T29 t191 x13_4).f0) = ((rd_T29 t186 x13_4).f0)
                                    · rw [if_pos c28] at H
                                      have c28b0 : (((rd_T29 t191 x13_4).f0) == ((rd_T29 t186 x13_4).f0)) = true := beq_iff_eq.mpr c28
                                      have c28b1 : (((rd_T29 t191 x13_4).f0) != ((rd_T29 t186 x13_4).f0)) = false := bne_eq_false_iff_eq.mpr c28
                                      clear c28
                                      by_cases c29 : ((rd_T29 t191 x13_4).f1).toList = ((rd_T29 t186 x13_4).f1).toList
                                      · rw [if_pos c29] at H
                                        have c29b0 : (((rd_T29 t191 x13_4).f1).toList == ((rd_T29 t186 x13_4).f1).toList) = true := beq_iff_eq.mpr c29
                                        have c29b1 : (((rd_T29 t191 x13_4).f1).toList != ((rd_T29 t186 x13_4).f1).toList) = false := bne_eq_false_iff_eq.mpr c29
                                        clear c29
                                        by_cases c30 : ((rd_T29 t191 x13_4).f2) = (wrap64 (((rd_T29 t186 x13_4).f2) + 5))
                                        · rw [if_pos c30] at H
                                          have c30b0 : (((rd_T29 t191 x13_4).f2) == (wrap64 (((rd_T29 t186 x13_4).f2) + 5))) = true := beq_iff_eq.mpr c30
                                          have c30b1 : (((rd_T29 t191 x13_4).f2) != (wrap64 (((rd_T29 t186 x13_4).f2) + 5))) = false := bne_eq_false_iff_eq.mpr c30
                                          clear c30
                                          have H' := Aside0.mk H
                                          clear H
                                          obtain ⟨Ao31, co31, eo31⟩ := Kd.R_slice HO_6.out
                                          subst eo31
                                          obtain ⟨Ao32, co32, eo32⟩ := Kd.R_slice HO_10.out
                                          subst eo32
                                          have p196 : 0 ≤ (x13_4 : Int) := of_decide_eq_true (by first | (with_reducible assumption) | assumption)
                                          have q196 : x13_4 < (t191.length : Int) := of_decide_eq_true (by first | (with_reducible assumption) | assumption)
                                          obtain ⟨ad196, e196, hx196_0, hx196_1, hx196_2⟩ := at_T29 (Kd.R_reads' HO_10.out).2.2 x13_4 p196 q196
                                          cases e196
                                          replace p196 := eq_true p196
                                          replace q196 := eq_true q196
                                          have p197 : 0 ≤ (x13_4 : Int) := of_decide_eq_true (by first | (with_reducible assumption) | assumption)
                                          have q197 : x13_4 < (t186.length : Int) := of_decide_eq_true (by first | (with_reducible assumption) | assumption)
                                          obtain ⟨ad197, e197, hx197_0, hx197_1, hx197_2⟩ := at_T29 (Kd.R_reads' HO_6.out).2.2 x13_4 p197 q197
                                          cases e197
                                          replace p197 := eq_true p197
                                          replace q197 := eq_true q197
                                          have p198 : 0 ≤ (x13_4 : Int) := of_decide_eq_true (by first | (with_reducible assumption) | assumption)
                                          have q198 : x13_4 < (t191.length : Int) := of_decide_eq_true (by first | (with_reducible assumption) | assumption)
                                          obtain ⟨ad198, e198, hx198_0, hx198_1, hx198_2⟩ := at_T29 (Kd.R_reads' HO_10.out).2.2 x13_4 p198 q198
                                          obtain rfl : ad196 = ad198 := (by injection e198)
                                          replace p198 := eq_true p198
                                          replace q198 := eq_true q198
                                          have p199 : 0 ≤ (x13_4 : Int) := of_decide_eq_true (by first | (with_reducible assumption) | assumption)
                                          have q199 : x13_4 < (t186.length : Int) := of_decide_eq_true (by first | (with_reducible assumption) | assumption)
                                          obtain ⟨ad199, e199, hx199_0, hx199_1, hx199_2⟩ := at_T29 (Kd.R_reads' HO_6.out).2.2 x13_4 p199 q199
                                          obtain rfl : ad197 = ad199 := (by injection e199)
                                          replace p199 := eq_true p199
                                          replace q199 := eq_true q199
                                          have p200 : 0 ≤ (x13_4 : Int) := of_decide_eq_true (by first | (with_reducible assumption) | assumption)
                                          have q200 : x13_4 < (t191.length : Int) := of_decide_eq_true (by first | (with_reducible assumption) | assumption)
                                          obtain ⟨ad200, e200, hx200_0, hx200_1, hx200_2⟩ := at_T29 (Kd.R_reads' HO_10.out).2.2 x13_4 p200 q200
                                          obtain rfl : ad196 = ad200 := (by injection e200)
                                          replace p200 := eq_true p200
                                          replace q200 := eq_true q200
                                          have p201 : 0 ≤ (x13_4 : Int) := of_decide_eq_true (by first | (with_reducible assumption) | assumption)
                                          have q201 : x13_4 < (t186.length : Int) := of_decide_eq_true (by first | (with_reducible assumption) | assumption)
                                          obtain ⟨ad201, e201, hx201_0, hx201_1, hx201_2⟩ := at_T29 (Kd.R_reads' HO_6.out).2.2 x13_4 p201 q201
                                          obtain rfl : ad197 = ad201 := (by injection e201)
                                          replace p201 := eq_true p201
                                          replace q201 := eq_true q201
                                          go_wp2
                                          repeat (go_quiet (fail); try go_wp2)
                                          go_roundg k4
                                          case measure => have := HK1.out; have := HJ10.out; have := HJ18.out; have := HK4.out; omega
                                          case rel => exact ⟨(wrap64 (x13_4 + 1)), (by first | rfl | (simp; done) | (simp [*]; done)), H', ⟨by have := HK1.out; have := HJ10.out; have := HJ18.out; have := HK4.out; omega⟩, ⟨by (with_reducible repeat (first | apply Kd.R_alloc | apply Kd.R_drewN | apply Kd.R_drew)); exact HO_6.out⟩, ⟨by (with_reducible repeat (first | apply Kd.R_alloc | apply Kd.R_drewN | apply Kd.R_drew)); exact HO_10.out⟩, ⟨by repeat (first | (with_reducible first | exact HB.out | apply below_alloc | apply pw_below_drewN | apply below_drew1) | exact HB.out)⟩⟩
                                        · rw [if_neg c30] at H
                                          have c30b0 : (((rd_T29 t191 x13_4).f2) == (wrap64 (((rd_T29 t186 x13_4).f2) + 5))) = false := beq_eq_false_iff_ne.mpr c30
                                          have c30b1 : (((rd_T29 t191 x13_4).f2) != (wrap64 (((rd_T29 t186 x13_4).f2) + 5))) = true := bne_iff_ne.mpr c30
                                          obtain rfl := Option.some.inj H
                                          obtain ⟨Ao33, co33, eo33⟩ := Kd.R_slice HO_6.out
                                          subst eo33
                                          obtain ⟨Ao34, co34, eo34⟩ := Kd.R_slice HO_10.out
                                          subst eo34
                                          have p196 : 0 ≤ (x13_4 : Int) := of_decide_eq_true (by first | (with_reducible assumption) | assumption)
                                          have q196 : x13_4 < (t191.length : Int) := of_decide_eq_true (by first | (with_reducible assumption) | assumption)
                                          obtain ⟨ad196, e196, hx196_0, hx196_1, hx196_2⟩ := at_T29 (Kd.R_reads' HO_10.out).2.2 x13_4 p196 q196
                                          cases e196
                                          replace p196 := eq_true p196
                                          replace q196 := eq_true q196
                                          have p197 : 0 ≤ (x13_4 : Int) := of_decide_eq_true (by first | (with_reducible assumption) | assumption)
                                          have q197 : x13_4 < (t186.length : Int) := of_decide_eq_true (by first | (with_reducible assumption) | assumption)
                                          obtain ⟨ad197, e197, hx197_0, hx197_1, hx197_2⟩ := at_T29 (Kd.R_reads' HO_6.out).2.2 x13_4 p197 q197
                                          cases e197
                                          replace p197 := eq_true p197
                                          replace q197 := eq_true q197
                                          have p198 : 0 ≤ (x13_4 : Int) := of_decide_eq_true (by first | (with_reducible assumption) | assumption)
                                          have q198 : x13_4 < (t191.length : Int) := of_decide_eq_true (by first | (with_reducible assumption) | assumption)
                                          obtain ⟨ad198, e198, hx198_0, hx198_1, hx198_2⟩ := at_T29 (Kd.R_reads' HO_10.out).2.2 x13_4 p198 q198
                                          obtain rfl : ad196 = ad198 := (by injection e198)
                                          replace p198 := eq_true p198
                                          replace q198 := eq_true q198
                                          have p199 : 0 ≤ (x13_4 : Int) := of_decide_eq_true (by first | (with_reducible assumption) | assumption)
                                          have q199 : x13_4 < (t186.length : Int) := of_decide_eq_true (by first | (with_reducible assumption) | assumption)
                                          obtain ⟨ad199, e199, hx199_0, hx199_1, hx199_2⟩ := at_T29 (Kd.R_reads' HO_6.out).2.2 x13_4 p199 q199
                                          obtain rfl : ad197 = ad199 := (by injection e199)
                                          replace p199 := eq_true p199
                                          replace q199 := eq_true q199
                                          have p200 : 0 ≤ (x13_4 : Int) := of_decide_eq_true (by first | (with_reducible assumption) | assumption)
                                          have q200 : x13_4 < (t191.length : Int) := of_decide_eq_true (by first | (with_reducible assumption) | assumption)
                                          obtain ⟨ad200, e200, hx200_0, hx200_1, hx200_2⟩ := at_T29 (Kd.R_reads' HO_10.out).2.2 x13_4 p200 q200
                                          obtain rfl : ad196 = ad200 := (by injection e200)
                                          replace p200 := eq_true p200
                                          replace q200 := eq_true q200
                                          have p201 : 0 ≤ (x13_4 : Int) := of_decide_eq_true (by first | (with_reducible assumption) | assumption)
                                          have q201 : x13_4 < (t186.length : Int) := of_decide_eq_true (by first | (with_reducible assumption) | assumption)
                                          obtain ⟨ad201, e201, hx201_0, hx201_1, hx201_2⟩ := at_T29 (Kd.R_reads' HO_6.out).2.2 x13_4 p201 q201
                                          obtain rfl : ad197 = ad201 := (by injection e201)
                                          replace p201 := eq_true p201
                                          replace q201 := eq_true q201
                                          go_wp2
                                          repeat (go_quiet (fail); try go_wp2)
                                          go_ret
                                          exact ⟨by first | rfl | (simp [errW_none, errW_some] <;> rfl) | (simp [*, errW_none, errW_some] <;> rfl), by repeat (first | (with_reducible first | exact HB.out | apply below_alloc | apply pw_below_drewN | apply below_drew1) | exact HB.out)⟩
                                      · rw [if_neg c29] at H
                                        have c29b0 : (((rd_T29 t191 x13_4).f1).toList == ((rd_T29 t186 x13_4).f1).toList) = false := beq_eq_false_iff_ne.mpr c29
                                        have c29b1 : (((rd_T29 t191 x13_4).f1).toList != ((rd_T29 t186 x13_4).f1).toList) = true := bne_iff_ne.mpr c29
                                        obtain rfl := Option.some.inj H
                                        obtain ⟨Ao35, co35, eo35⟩ := Kd.R_slice HO_6.out
                                        subst eo35
                                        obtain ⟨Ao36, co36, eo36⟩ := Kd.R_slice HO_10.out
                                        subst eo36
                                        have p196 : 0 ≤ (x13_4 : Int) := of_decide_eq_true (by first | (with_reducible assumption) | assumption)
                                        have q196 : x13_4 < (t191.length : Int) := of_decide_eq_true (by first | (with_reducible assumption) | assumption)
                                        obtain ⟨ad196, e196, hx196_0, hx196_1, hx196_2⟩ := at_T29 (Kd.R_reads' HO_10.out).2.2 x13_4 p196 q196
                                        cases e196
                                        replace p196 := eq_true p196
                                        replace q196 := eq_true q196
                                        have p197 : 0 ≤ (x13_4 : Int) := of_decide_eq_true (by first | (with_reducible assumption) | assumption)
                                        have q197 : x13_4 < (t186.length : Int) := of_decide_eq_true (by first | (with_reducible assumption) | assumption)
                                        obtain ⟨ad197, e197, hx197_0, hx197_1, hx197_2⟩ := at_T29 (Kd.R_reads' HO_6.out).2.2 x13_4 p197 q197
                                        cases e197
                                        replace p197 := eq_true p197
                                        replace q197 := eq_true q197
                                        have p198 : 0 ≤ (x13_4 : Int) := of_decide_eq_true (by first | (with_reducible assumption) | assumption)
                                        have q198 : x13_4 < (t191.length : Int) := of_decide_eq_true (by first | (with_reducible assumption) | assumption)
                                        obtain ⟨ad198, e198, hx198_0, hx198_1, hx198_2⟩ := at_T29 (Kd.R_reads' HO_10.out).2.2 x13_4 p198 q198
                                        obtain rfl : ad196 = ad198 := (by injection e198)
                                        replace p198 := eq_true p198
                                        replace q198 := eq_true q198
                                        have p199 : 0 ≤ (x13_4 : Int) := of_decide_eq_true (by first | (with_reducible assumption) | assumption)
                                        have q199 : x13_4 < (t186.length : Int) := of_decide_eq_true (by first | (with_reducible assumption) | assumption)
                                        obtain ⟨ad199, e199, hx199_0, hx199_1, hx199_2⟩ := at_T29 (Kd.R_reads' HO_6.out).2.2 x13_4 p199 q199
                                        obtain rfl : ad197 = ad199 := (by injection e199)
                                        replace p199 := eq_true p199
                                        replace q199 := eq_true q199
                                        go_wp2
                                        repeat (go_quiet (fail); try go_wp2)
                                        go_ret
                                        exact ⟨by first | rfl | (simp [errW_none, errW_some] <;> rfl) | (simp [*, errW_none, errW_some] <;> rfl), by repeat (first | (with_reducible first | exact HB.out | apply below_alloc | apply pw_below_drewN | apply below_drew1) | exact HB.out)⟩
                                    · rw [if_neg c28] at H
                                      have c28b0 : (((rd_T29 t191 x13_4).f0) == ((rd_T29 t186 x13_4).f0)) = false := beq_eq_false_iff_ne.mpr c28
                                      have c28b1 : (((rd_T29 t191 x13_4).f0) != ((rd_T29 t186 x13_4).f0)) = true := bne_iff_ne.mpr c28
                                      obtain rfl := Option.some.inj H
                                      obtain ⟨Ao37, co37, eo37⟩ := Kd.R_slice HO_6.out
                                      subst eo37
                                      obtain ⟨Ao38, co38, eo38⟩ := Kd.R_slice HO_10.out
                                      subst eo38
                                      have p196 : 0 ≤ (x13_4 : Int) := of_decide_eq_true (by first | (with_reducible assumption) | assumption)
                                      have q196 : x13_4 < (t191.length : Int) := of_decide_eq_true (by first | (with_reducible assumption) | assumption)
                                      obtain ⟨ad196, e196, hx196_0, hx196_1, hx196_2⟩ := at_T29 (Kd.R_reads' HO_10.out).2.2 x13_4 p196 q196
                                      cases e196
                                      replace p196 := eq_true p196
                                      replace q196 := eq_true q196
                                      have p197 : 0 ≤ (x13_4 : Int) := of_decide_eq_true (by first | (with_reducible assumption) | assumption)
                                      have q197 : x13_4 < (t186.length : Int) := of_decide_eq_true (by first | (with_reducible assumption) | assumption)
                                      obtain ⟨ad197, e197, hx197_0, hx197_1, hx197_2⟩ := at_T29 (Kd.R_reads' HO_6.out).2.2 x13_4 p197 q197
                                      cases e197
                                      replace p197 := eq_true p197
                                      replace q197 := eq_true q197
                                      go_wp2
                                      repeat (go_quiet (fail); try go_wp2)
                                      go_ret
                                      exact ⟨by first | rfl | (simp [errW_none, errW_some] <;> rfl) | (simp [*, errW_none, errW_some] <;> rfl), by repeat (first | (with_reducible first | exact HB.out | apply below_alloc | apply pw_below_drewN | apply below_drew1) | exact HB.out)⟩
                                  · rw [if_neg c27] at H
                                    exact absurd H (by simp)
                                · rw [if_neg c26] at H
                                  exact absurd H (by simp)
                              · rw [if_neg c25] at H
                                have c25b0 : decide (x13_4 < (t186.length : Int)) = false := decide_eq_false c25
                                clear c25
                                obtain rfl := Option.some.inj H
                                obtain ⟨Ao39, co39, eo39⟩ := Kd.R_slice HO_6.out
                                subst eo39
                                go_wp2
                                repeat (go_quiet (fail); try go_wp2)
                                go_ret
                                exact ⟨by first | rfl | (simp [errW_none, errW_some] <;> rfl) | (simp [*, errW_none, errW_some] <;> rfl), by repeat (first | (with_reducible first | exact HB.out | apply below_alloc | apply pw_below_drewN | apply below_drew1) | exact HB.out)⟩
                  · rw [if_neg c17] at H
                    exact absurd H (by simp)
                · rw [if_neg c16] at H
                  exact absurd H (by simp)
              · rw [if_neg c15] at H
                exact absurd H (by simp)

end Go.Proofs.YtjjhopcbipedaaaDoor.PX
