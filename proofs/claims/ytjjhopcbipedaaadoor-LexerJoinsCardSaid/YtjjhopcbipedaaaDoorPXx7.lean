-- printed by wip/printx (a program of this session's, over the kit's print)
import Derived.Test.YtjjhopcbipedaaaDoorPXx0
import Derived.Test.YtjjhopcbipedaaaDoorPXx4
import Derived.Test.YtjjhopcbipedaaaDoorPXx5
namespace Go.Proofs.YtjjhopcbipedaaaDoor.PX
open Go.RowKit Go.Proofs.YtjjhopcbipedaaaDoorW.PrintWords Go.Proofs.YtjjhopcbipedaaaDoorW.PrintLast Go.Proofs.YtjjhopcbipedaaaDoorW.PrintMore
attribute [local go_sem] max2_int min2_int max_two min_two max_three min_three max_four min_four Go.Proofs.YtjjhopcbipedaaaDoor.PxMore.isSome_setCell   -- for this text's walks alone
set_option linter.unusedVariables false
set_option linter.unusedSimpArgs false

/-! ### majordomolaw11_LexerJoins: function 4 -/
mutual
def majordomolaw11_LexerJoins.j0 : Nat → Bool → List (S29) → Bool → Option (Bool)
  | 0, _, _, _ => none
  | k + 1, x3, x4, x25 => if x25 = true then (some x3) else (majordomolaw11_LexerJoins.l0 k x4 (⟨#[]⟩ : ByteArray) 0)
def majordomolaw11_LexerJoins.j2 : Nat → List (S29) → ByteArray → Option (Bool)
  | 0, _, _ => none
  | k + 1, x4, x7 => if (x7.size : Int) > 65536 then (majordomolaw11_LexerJoins.j3 k x4 x7 true) else (majordomolaw11_LexerJoins.j3 k x4 x7 (decide ((x4.length : Int) > 2000)))
def majordomolaw11_LexerJoins.j3 : Nat → List (S29) → ByteArray → Bool → Option (Bool)
  | 0, _, _, _ => none
  | k + 1, x4, x7, x52 => if x52 = true then (some true) else ((lexer_Lex.f k x7).bind fun bt176 => (if bt176.2.2 = 0 then (majordomolaw11_LexerJoins.j4 k x4 bt176.1 ((bt176.1.length : Int) != (x4.length : Int))) else (majordomolaw11_LexerJoins.j4 k x4 bt176.1 true)))
def majordomolaw11_LexerJoins.j4 : Nat → List (S29) → List (S29) → Bool → Option (Bool)
  | 0, _, _, _ => none
  | k + 1, x4, x9, x67 => if x67 = true then (some false) else (majordomolaw11_LexerJoins.l1 k x4 x9 0)
def majordomolaw11_LexerJoins.l1 : Nat → List (S29) → List (S29) → Int → Option (Bool)
  | 0, _, _, _ => none
  | k + 1, x4, x9, x12 => if x12 < (x4.length : Int) then (if 0 ≤ x12 then (if x12 < (x9.length : Int) then (if ((rd_T29 x9 x12).f0) = ((rd_T29 x4 x12).f0) then (if ((rd_T29 x9 x12).f1).toList = ((rd_T29 x4 x12).f1).toList then (majordomolaw11_LexerJoins.l1 k x4 x9 (wrap64 (x12 + 1))) else (some false)) else (some false)) else (none)) else (none)) else (some true)
def majordomolaw11_LexerJoins.l0 : Nat → List (S29) → ByteArray → Int → Option (Bool)
  | 0, _, _, _ => none
  | k + 1, x4, x7, x8 => if x8 < (x4.length : Int) then (if x8 < 2000 then (if 0 ≤ x8 then ((majordomoref11_Text.f ((rd_T29 x4 x8).f0) ((rd_T29 x4 x8).f1) ((rd_T29 x4 x8).f2)).bind fun t175 => (if x7.size + t175.size ≤ 9223372036854775807 then (if (x7 ++ t175).size + 1 ≤ 9223372036854775807 then (majordomolaw11_LexerJoins.l0 k x4 ((x7 ++ t175) ++ (⟨#[32]⟩ : ByteArray)) (wrap64 (x8 + 1))) else (none)) else (none))) else (none)) else (majordomolaw11_LexerJoins.j2 k x4 x7)) else (majordomolaw11_LexerJoins.j2 k x4 x7)
end
def majordomolaw11_LexerJoins.f (k : Nat) (a0 : ByteArray) : Option (Bool) := (majordomolaw11_shown.f k).bind fun t168 => ((lexer_Lex.f k a0).bind fun bt169 => (if t168 = true then (majordomolaw11_LexerJoins.j0 k t168 bt169.1 (bt169.2.2 != 0)) else (majordomolaw11_LexerJoins.j0 k t168 bt169.1 true)))
theorem majordomolaw11_LexerJoins.mono_l : ∀ k, (∀ y0 y1 y2, LeO (majordomolaw11_LexerJoins.j0 k y0 y1 y2) (majordomolaw11_LexerJoins.j0 (k + 1) y0 y1 y2)) ∧ (∀ y0 y1, LeO (majordomolaw11_LexerJoins.j2 k y0 y1) (majordomolaw11_LexerJoins.j2 (k + 1) y0 y1)) ∧ (∀ y0 y1 y2, LeO (majordomolaw11_LexerJoins.j3 k y0 y1 y2) (majordomolaw11_LexerJoins.j3 (k + 1) y0 y1 y2)) ∧ (∀ y0 y1 y2, LeO (majordomolaw11_LexerJoins.j4 k y0 y1 y2) (majordomolaw11_LexerJoins.j4 (k + 1) y0 y1 y2)) ∧ (∀ y0 y1 y2, LeO (majordomolaw11_LexerJoins.l1 k y0 y1 y2) (majordomolaw11_LexerJoins.l1 (k + 1) y0 y1 y2)) ∧ (∀ y0 y1 y2, LeO (majordomolaw11_LexerJoins.l0 k y0 y1 y2) (majordomolaw11_LexerJoins.l0 (k + 1) y0 y1 y2))
  | 0 => ⟨fun _ _ _ r h => by simp [majordomolaw11_LexerJoins.j0] at h, fun _ _ r h => by simp [majordomolaw11_LexerJoins.j2] at h, fun _ _ _ r h => by simp [majordomolaw11_LexerJoins.j3] at h, fun _ _ _ r h => by simp [majordomolaw11_LexerJoins.j4] at h, fun _ _ _ r h => by simp [majordomolaw11_LexerJoins.l1] at h, fun _ _ _ r h => by simp [majordomolaw11_LexerJoins.l0] at h⟩
  | k + 1 => by
    obtain ⟨ih0, ih1, ih2, ih3, ih4, ih5⟩ := majordomolaw11_LexerJoins.mono_l k
    refine ⟨?_, ?_, ?_, ?_, ?_, ?_⟩
    · intro y0 y1 y2
      unfold majordomolaw11_LexerJoins.j0
      repeat' first
      | (with_reducible exact ih0 _ _ _)
      | (with_reducible exact ih1 _ _)
      | (with_reducible exact ih2 _ _ _)
      | (with_reducible exact ih3 _ _ _)
      | (with_reducible exact ih4 _ _ _)
      | (with_reducible exact ih5 _ _ _)
      | (with_reducible exact lexer_Lex.mono _ _)
      | (with_reducible exact majordomolaw11_shown.mono _)
      | (with_reducible exact LeO.refl _)
      | (with_reducible exact LeO.none _)
      | (with_reducible refine LeO.ite ?_ ?_)
      | (with_reducible refine LeO.bind ?_ (fun _ => ?_))
      | exact ih0 _ _ _
      | exact ih1 _ _
      | exact ih2 _ _ _
      | exact ih3 _ _ _
      | exact ih4 _ _ _
      | exact ih5 _ _ _
      | exact lexer_Lex.mono _ _
      | exact majordomolaw11_shown.mono _
      | exact LeO.none _
      | refine LeO.ite ?_ ?_
      | refine LeO.bind ?_ (fun _ => ?_)
    · intro y0 y1
      unfold majordomolaw11_LexerJoins.j2
      repeat' first
      | (with_reducible exact ih0 _ _ _)
      | (with_reducible exact ih1 _ _)
      | (with_reducible exact ih2 _ _ _)
      | (with_reducible exact ih3 _ _ _)
      | (with_reducible exact ih4 _ _ _)
      | (with_reducible exact ih5 _ _ _)
      | (with_reducible exact lexer_Lex.mono _ _)
      | (with_reducible exact majordomolaw11_shown.mono _)
      | (with_reducible exact LeO.refl _)
      | (with_reducible exact LeO.none _)
      | (with_reducible refine LeO.ite ?_ ?_)
      | (with_reducible refine LeO.bind ?_ (fun _ => ?_))
      | exact ih0 _ _ _
      | exact ih1 _ _
      | exact ih2 _ _ _
      | exact ih3 _ _ _
      | exact ih4 _ _ _
      | exact ih5 _ _ _
      | exact lexer_Lex.mono _ _
      | exact majordomolaw11_shown.mono _
      | exact LeO.none _
      | refine LeO.ite ?_ ?_
      | refine LeO.bind ?_ (fun _ => ?_)
    · intro y0 y1 y2
      unfold majordomolaw11_LexerJoins.j3
      repeat' first
      | (with_reducible exact ih0 _ _ _)
      | (with_reducible exact ih1 _ _)
      | (with_reducible exact ih2 _ _ _)
      | (with_reducible exact ih3 _ _ _)
      | (with_reducible exact ih4 _ _ _)
      | (with_reducible exact ih5 _ _ _)
      | (with_reducible exact lexer_Lex.mono _ _)
      | (with_reducible exact majordomolaw11_shown.mono _)
      | (with_reducible exact LeO.refl _)
      | (with_reducible exact LeO.none _)
      | (with_reducible refine LeO.ite ?_ ?_)
      | (with_reducible refine LeO.bind ?_ (fun _ => ?_))
      | exact ih0 _ _ _
      | exact ih1 _ _
      | exact ih2 _ _ _
      | exact ih3 _ _ _
      | exact ih4 _ _ _
      | exact ih5 _ _ _
      | exact lexer_Lex.mono _ _
      | exact majordomolaw11_shown.mono _
      | exact LeO.none _
      | refine LeO.ite ?_ ?_
      | refine LeO.bind ?_ (fun _ => ?_)
    · intro y0 y1 y2
      unfold majordomolaw11_LexerJoins.j4
      repeat' first
      | (with_reducible exact ih0 _ _ _)
      | (with_reducible exact ih1 _ _)
      | (with_reducible exact ih2 _ _ _)
      | (with_reducible exact ih3 _ _ _)
      | (with_reducible exact ih4 _ _ _)
      | (with_reducible exact ih5 _ _ _)
      | (with_reducible exact lexer_Lex.mono _ _)
      | (with_reducible exact majordomolaw11_shown.mono _)
      | (with_reducible exact LeO.refl _)
      | (with_reducible exact LeO.none _)
      | (with_reducible refine LeO.ite ?_ ?_)
      | (with_reducible refine LeO.bind ?_ (fun _ => ?_))
      | exact ih0 _ _ _
      | exact ih1 _ _
      | exact ih2 _ _ _
      | exact ih3 _ _ _
      | exact ih4 _ _ _
      | exact ih5 _ _ _
      | exact lexer_Lex.mono _ _
      | exact majordomolaw11_shown.mono _
      | exact LeO.none _
      | refine LeO.ite ?_ ?_
      | refine LeO.bind ?_ (fun _ => ?_)
    · intro y0 y1 y2
      unfold majordomolaw11_LexerJoins.l1
      repeat' first
      | (with_reducible exact ih0 _ _ _)
      | (with_reducible exact ih1 _ _)
      | (with_reducible exact ih2 _ _ _)
      | (with_reducible exact ih3 _ _ _)
      | (with_reducible exact ih4 _ _ _)
      | (with_reducible exact ih5 _ _ _)
      | (with_reducible exact lexer_Lex.mono _ _)
      | (with_reducible exact majordomolaw11_shown.mono _)
      | (with_reducible exact LeO.refl _)
      | (with_reducible exact LeO.none _)
      | (with_reducible refine LeO.ite ?_ ?_)
      | (with_reducible refine LeO.bind ?_ (fun _ => ?_))
      | exact ih0 _ _ _
      | exact ih1 _ _
      | exact ih2 _ _ _
      | exact ih3 _ _ _
      | exact ih4 _ _ _
      | exact ih5 _ _ _
      | exact lexer_Lex.mono _ _
      | exact majordomolaw11_shown.mono _
      | exact LeO.none _
      | refine LeO.ite ?_ ?_
      | refine LeO.bind ?_ (fun _ => ?_)
    · intro y0 y1 y2
      unfold majordomolaw11_LexerJoins.l0
      repeat' first
      | (with_reducible exact ih0 _ _ _)
      | (with_reducible exact ih1 _ _)
      | (with_reducible exact ih2 _ _ _)
      | (with_reducible exact ih3 _ _ _)
      | (with_reducible exact ih4 _ _ _)
      | (with_reducible exact ih5 _ _ _)
      | (with_reducible exact lexer_Lex.mono _ _)
      | (with_reducible exact majordomolaw11_shown.mono _)
      | (with_reducible exact LeO.refl _)
      | (with_reducible exact LeO.none _)
      | (with_reducible refine LeO.ite ?_ ?_)
      | (with_reducible refine LeO.bind ?_ (fun _ => ?_))
      | exact ih0 _ _ _
      | exact ih1 _ _
      | exact ih2 _ _ _
      | exact ih3 _ _ _
      | exact ih4 _ _ _
      | exact ih5 _ _ _
      | exact lexer_Lex.mono _ _
      | exact majordomolaw11_shown.mono _
      | exact LeO.none _
      | refine LeO.ite ?_ ?_
      | refine LeO.bind ?_ (fun _ => ?_)
theorem majordomolaw11_LexerJoins.mono : ∀ a0 k, LeO (majordomolaw11_LexerJoins.f k a0) (majordomolaw11_LexerJoins.f (k + 1) a0) := by
  intro a0 k
  obtain ⟨ih0, ih1, ih2, ih3, ih4, ih5⟩ := majordomolaw11_LexerJoins.mono_l k
  unfold majordomolaw11_LexerJoins.f
  repeat' first
      | (with_reducible exact ih0 _ _ _)
      | (with_reducible exact ih1 _ _)
      | (with_reducible exact ih2 _ _ _)
      | (with_reducible exact ih3 _ _ _)
      | (with_reducible exact ih4 _ _ _)
      | (with_reducible exact ih5 _ _ _)
      | (with_reducible exact lexer_Lex.mono _ _)
      | (with_reducible exact majordomolaw11_shown.mono _)
      | (with_reducible exact LeO.refl _)
      | (with_reducible exact LeO.none _)
      | (with_reducible refine LeO.ite ?_ ?_)
      | (with_reducible refine LeO.bind ?_ (fun _ => ?_))
      | exact ih0 _ _ _
      | exact ih1 _ _
      | exact ih2 _ _ _
      | exact ih3 _ _ _
      | exact ih4 _ _ _
      | exact ih5 _ _ _
      | exact lexer_Lex.mono _ _
      | exact majordomolaw11_shown.mono _
      | exact LeO.none _
      | refine LeO.ite ?_ ?_
      | refine LeO.bind ?_ (fun _ => ?_)
set_option maxHeartbeats 8000000 in
set_option maxRecDepth 100000 in
theorem majordomolaw11_LexerJoins.calls (k : Nat) (a0 : ByteArray) (r : Bool) (w : World) (hamb : Amb w) (h : majordomolaw11_LexerJoins.f k a0 = some r) :
    Calls Tryd.prog 4 #[.string a0] w fun e w' => e = .returned (.bool r) ∧ Below w.heap.size w w' := by
  have hu29 := Tryd.underlying29
  have HAMB := Aside0.mk hamb
  clear hamb
  have HB := Aside0.mk (Below.refl w.heap.size w)
  have H : ((majordomolaw11_shown.f k).bind fun t168 => ((lexer_Lex.f k a0).bind fun bt169 => (if t168 = true then (majordomolaw11_LexerJoins.j0 k t168 bt169.1 (bt169.2.2 != 0)) else (majordomolaw11_LexerJoins.j0 k t168 bt169.1 true)))) = some r := h
  clear h
  replace H := Option.bind_eq_some_iff.mp H
  obtain ⟨t168, A20, H⟩ := H
  replace H : ((lexer_Lex.f k a0).bind fun bt169 => (if t168 = true then (majordomolaw11_LexerJoins.j0 k t168 bt169.1 (bt169.2.2 != 0)) else (majordomolaw11_LexerJoins.j0 k t168 bt169.1 true))) = some r := H
  have A2 := Aside0.mk A20
  clear A20
  replace H := Option.bind_eq_some_iff.mp H
  obtain ⟨⟨t169, t170, t171⟩, A30, H⟩ := H
  replace H : (if t168 = true then (majordomolaw11_LexerJoins.j0 k t168 t169 (t171 != 0)) else (majordomolaw11_LexerJoins.j0 k t168 t169 true)) = some r := H
  have A3 := Aside0.mk A30
  clear A30
  have HC4 := Aside0.mk H
  clear H
  go_enter Tryd.func4, Tryd.ntmps4
  go_upto_region 3 with (first | (go_at_call 8; (with_reducible refine (majordomolaw11_shown.calls k  t168 _ ?side1 A2.out).mono ?_); (case side1 => first | exact Amb.below HAMB.out (by repeat (first | (with_reducible first | exact HB.out | apply below_alloc | apply pw_below_drewN | apply below_drew1) | exact HB.out)) | exact Amb.drawn HAMB.out (by repeat (first | exact Drawn0.refl _ | apply Drawn0.step))); rintro e w5 ⟨rfl, hb⟩; have n0_ := Aside0.mk (below_step (by repeat (first | (with_reducible first | exact HB.out | apply below_alloc | apply pw_below_drewN | apply below_drew1) | exact HB.out)) hb); clear HB; have HB := n0_; clear n0_; (try clear hb); (try clear hb2); (try clear hk); (try clear hi)) | (go_at_call 9; (with_reducible refine (lexer_Lex.calls k a0 t169 t170 t171 _ ?side1 A3.out).mono ?_); (case side1 => first | exact Amb.below HAMB.out (by repeat (first | (with_reducible first | exact HB.out | apply below_alloc | apply pw_below_drewN | apply below_drew1) | exact HB.out)) | exact Amb.drawn HAMB.out (by repeat (first | exact Drawn0.refl _ | apply Drawn0.step))); rintro e w6 ⟨v172, rfl, ho0, hb⟩; have n0_ := Aside0.mk (Kd.R_lower ho0 (below_size (by repeat (first | (with_reducible first | exact HB.out | apply below_alloc | apply pw_below_drewN | apply below_drew1) | exact HB.out)))); have n1_ := Aside0.mk (below_step (by repeat (first | (with_reducible first | exact HB.out | apply below_alloc | apply pw_below_drewN | apply below_drew1) | exact HB.out)) hb); clear HB; have HO173 := n0_; have HB := n1_; clear n0_ n1_; (try clear hb); (try clear hb2); (try clear hk); (try clear hi); (try clear ho0)))
  repeat (go_quiet (first | (go_at_call 8; (with_reducible refine (majordomolaw11_shown.calls k  t168 _ ?side1 A2.out).mono ?_); (case side1 => first | exact Amb.below HAMB.out (by repeat (first | (with_reducible first | exact HB.out | apply below_alloc | apply pw_below_drewN | apply below_drew1) | exact HB.out)) | exact Amb.drawn HAMB.out (by repeat (first | exact Drawn0.refl _ | apply Drawn0.step))); rintro e w5 ⟨rfl, hb⟩; have n0_ := Aside0.mk (below_step (by repeat (first | (with_reducible first | exact HB.out | apply below_alloc | apply pw_below_drewN | apply below_drew1) | exact HB.out)) hb); clear HB; have HB := n0_; clear n0_; (try clear hb); (try clear hb2); (try clear hk); (try clear hi)) | (go_at_call 9; (with_reducible refine (lexer_Lex.calls k a0 t169 t170 t171 _ ?side1 A3.out).mono ?_); (case side1 => first | exact Amb.below HAMB.out (by repeat (first | (with_reducible first | exact HB.out | apply below_alloc | apply pw_below_drewN | apply below_drew1) | exact HB.out)) | exact Amb.drawn HAMB.out (by repeat (first | exact Drawn0.refl _ | apply Drawn0.step))); rintro e w6 ⟨v172, rfl, ho0, hb⟩; have n0_ := Aside0.mk (Kd.R_lower ho0 (below_size (by repeat (first | (with_reducible first | exact HB.out | apply below_alloc | apply pw_below_drewN | apply below_drew1) | exact HB.out)))); have n1_ := Aside0.mk (below_step (by repeat (first | (with_reducible first | exact HB.out | apply below_alloc | apply pw_below_drewN | apply below_drew1) | exact HB.out)) hb); clear HB; have HO173 := n0_; have HB := n1_; clear n0_ n1_; (try clear hb); (try clear hb2); (try clear hk); (try clear hi); (try clear ho0))); go_upto_region 3 with (first | (go_at_call 8; (with_reducible refine (majordomolaw11_shown.calls k  t168 _ ?side1 A2.out).mono ?_); (case side1 => first | exact Amb.below HAMB.out (by repeat (first | (with_reducible first | exact HB.out | apply below_alloc | apply pw_below_drewN | apply below_drew1) | exact HB.out)) | exact Amb.drawn HAMB.out (by repeat (first | exact Drawn0.refl _ | apply Drawn0.step))); rintro e w5 ⟨rfl, hb⟩; have n0_ := Aside0.mk (below_step (by repeat (first | (with_reducible first | exact HB.out | apply below_alloc | apply pw_below_drewN | apply below_drew1) | exact HB.out)) hb); clear HB; have HB := n0_; clear n0_; (try clear hb); (try clear hb2); (try clear hk); (try clear hi)) | (go_at_call 9; (with_reducible refine (lexer_Lex.calls k a0 t169 t170 t171 _ ?side1 A3.out).mono ?_); (case side1 => first | exact Amb.below HAMB.out (by repeat (first | (with_reducible first | exact HB.out | apply below_alloc | apply pw_below_drewN | apply below_drew1) | exact HB.out)) | exact Amb.drawn HAMB.out (by repeat (first | exact Drawn0.refl _ | apply Drawn0.step))); rintro e w6 ⟨v172, rfl, ho0, hb⟩; have n0_ := Aside0.mk (Kd.R_lower ho0 (below_size (by repeat (first | (with_reducible first | exact HB.out | apply below_alloc | apply pw_below_drewN | apply below_drew1) | exact HB.out)))); have n1_ := Aside0.mk (below_step (by repeat (first | (with_reducible first | exact HB.out | apply below_alloc | apply pw_below_drewN | apply below_drew1) | exact HB.out)) hb); clear HB; have HO173 := n0_; have HB := n1_; clear n0_ n1_; (try clear hb); (try clear hb2); (try clear hk); (try clear hi); (try clear ho0))))
  (try simp only [Act.put, List.setIfInBounds_toArray, List.set_cons_zero, List.set_cons_succ])
  go_cut [25] (fun v25 wc => ∃ (kq : Nat) (x25_3 : Bool), v25 = .bool x25_3 ∧ Aside0 (majordomolaw11_LexerJoins.j0 kq t168 t169 x25_3 = some r) ∧ Aside0 (kq ≤ k) ∧ Aside0 (Kd.R k29 29 wc w.heap.size (fun _ => True) v172 t169) ∧ Aside0 (Below w.heap.size w wc))
  case first =>
    have H := HC4.out
    clear HC4
    by_cases c7 : t168 = true
    · subst c7
      have H1 : (majordomolaw11_LexerJoins.j0 k true t169 (t171 != 0)) = some r := by rw [if_pos rfl] at H; exact H
      clear H
      have H := H1
      clear H1
      have H' := Aside0.mk H
      clear H
      go_wp2
      repeat (go_quiet (fail); try go_wp2)
      go_meet
      case rel => exact ⟨_, ((t171 != 0)), (by first | rfl | (simp; done) | (simp [*]; done)), H', ⟨by first | omega | exact Nat.le_refl _⟩, ⟨by (with_reducible repeat (first | apply Kd.R_alloc | apply Kd.R_drewN | apply Kd.R_drew)); exact HO173.out⟩, ⟨by repeat (first | (with_reducible first | exact HB.out | apply below_alloc | apply pw_below_drewN | apply below_drew1) | exact HB.out)⟩⟩
    · replace c7 := Bool.eq_false_iff.mpr c7
      subst c7
      have H1 : (majordomolaw11_LexerJoins.j0 k false t169 true) = some r := by rw [if_neg (show ¬ (false = true) by decide)] at H; exact H
      clear H
      have H := H1
      clear H1
      have H' := Aside0.mk H
      clear H
      go_wp2
      repeat (go_quiet (fail); try go_wp2)
      go_meet
      case rel => exact ⟨_, (true), (by first | rfl | (simp; done) | (simp [*]; done)), H', ⟨by first | omega | exact Nat.le_refl _⟩, ⟨by (with_reducible repeat (first | apply Kd.R_alloc | apply Kd.R_drewN | apply Kd.R_drew)); exact HO173.out⟩, ⟨by repeat (first | (with_reducible first | exact HB.out | apply below_alloc | apply pw_below_drewN | apply below_drew1) | exact HB.out)⟩⟩
  case rest =>
    clear HC4
    try clear p2
    try clear c4
    try clear c7
    obtain ⟨kq, x25_3, rfl, HA, HJ3, HO_4, HB⟩ := hcut
    cases kq with
    | zero => exact absurd HA.out (by simp [majordomolaw11_LexerJoins.j0])
    | succ kj3 =>
      have H := HA.out
      clear HA
      simp only [majordomolaw11_LexerJoins.j0] at H
      by_cases c8 : x25_3 = true
      · subst c8
        have H1 : (some t168) = some r := by rw [if_pos rfl] at H; exact H
        clear H
        have H := H1
        clear H1
        obtain rfl := Option.some.inj H
        go_wp2
        repeat (go_quiet (fail); try go_wp2)
        go_ret
        exact ⟨by first | rfl | (simp [errW_none, errW_some] <;> rfl) | (simp [*, errW_none, errW_some] <;> rfl), by repeat (first | (with_reducible first | exact HB.out | apply below_alloc | apply pw_below_drewN | apply below_drew1) | exact HB.out)⟩
      · replace c8 := Bool.eq_false_iff.mpr c8
        subst c8
        have H1 : (majordomolaw11_LexerJoins.l0 kj3 t169 (⟨#[]⟩ : ByteArray) 0) = some r := by rw [if_neg (show ¬ (false = true) by decide)] at H; exact H
        clear H
        have H := H1
        clear H1
        have HC9 := Aside0.mk H
        clear H
        go_upto_block 0 with (fail)
        repeat (go_quiet (fail); go_upto_block 0 with (fail))
        go_cut [7] (fun v7 wc => ∃ (kq : Nat) (x7_8 : ByteArray), v7 = .string x7_8 ∧ Aside0 (majordomolaw11_LexerJoins.j2 kq t169 x7_8 = some r) ∧ Aside0 (kq ≤ kj3) ∧ Aside0 (Kd.R k29 29 wc w.heap.size (fun _ => True) v172 t169) ∧ Aside0 (Below w.heap.size w wc))
        case first =>
          have H := HC9.out
          clear HC9
          have H' := Aside0.mk H
          clear H
          go_wp2
          repeat (go_quiet (fail); try go_wp2)
          go_loopg [7, 8] kj3 (fun kq v7 v8 w' => ∃ (x7_2 : ByteArray) (x8_2 : Int), v7 = .string x7_2 ∧ v8 = .int .i64 x8_2 ∧ Aside0 (majordomolaw11_LexerJoins.l0 kq t169 x7_2 x8_2 = some r) ∧ Aside0 (kq ≤ kj3) ∧ Aside0 (Kd.R k29 29 w' w.heap.size (fun _ => True) v172 t169) ∧ Aside0 (Below w.heap.size w w'))
          case atStart => exact ⟨((⟨#[]⟩ : ByteArray)), (0), (by first | rfl | (simp; done) | (simp [*]; done)), (by first | rfl | (simp; done) | (simp [*]; done)), H', ⟨Nat.le_refl _⟩, ⟨by (with_reducible repeat (first | apply Kd.R_alloc | apply Kd.R_drewN | apply Kd.R_drew)); exact HO_4.out⟩, ⟨by repeat (first | (with_reducible first | exact HB.out | apply below_alloc | apply pw_below_drewN | apply below_drew1) | exact HB.out)⟩⟩
          case round =>
            clear H'
            try clear p2
            try clear c4
            try clear c7
            try clear c8
            try clear p2
            obtain ⟨x7_2, x8_2, rfl, rfl, HA, HK2, HO_4, HB⟩ := hrel
            cases gk with
            | zero => exact absurd HA.out (by simp [majordomolaw11_LexerJoins.l0])
            | succ k2 =>
              have H := HA.out
              clear HA
              simp only [majordomolaw11_LexerJoins.l0] at H
              by_cases c10 : x8_2 < (t169.length : Int)
              · rw [if_pos c10] at H
                have c10b0 : decide (x8_2 < (t169.length : Int)) = true := decide_eq_true c10
                clear c10
                (first | rw [c10b0] | (simp only [i64_w, i32_w]; rw [c10b0]) | skip)
                by_cases c11 : x8_2 < 2000
                · rw [if_pos c11] at H
                  have c11b0 : decide (x8_2 < 2000) = true := decide_eq_true c11
                  clear c11
                  by_cases c12 : 0 ≤ x8_2
                  · rw [if_pos c12] at H
                    have c12b0 : decide (0 ≤ x8_2) = true := decide_eq_true c12
                    clear c12
                    replace H := Option.bind_eq_some_iff.mp H
                    obtain ⟨t175, A130, H⟩ := H
                    replace H : (if x7_2.size + t175.size ≤ 9223372036854775807 then (if (x7_2 ++ t175).size + 1 ≤ 9223372036854775807 then (majordomolaw11_LexerJoins.l0 k2 t169 ((x7_2 ++ t175) ++ (⟨#[32]⟩ : ByteArray)) (wrap64 (x8_2 + 1))) else (none)) else (none)) = some r := H
                    have A13 := Aside0.mk A130
                    clear A130
                    by_cases c14 : x7_2.size + t175.size ≤ 9223372036854775807
                    · rw [if_pos c14] at H
                      have c14b0 := eq_true c14
                      have c14b1 : decide (x7_2.size + t175.size ≤ 9223372036854775807) = true := decide_eq_true c14
                      try have c14b2 : (9223372036854775807 < x7_2.size + t175.size) = False := eq_false (Nat.not_lt.2 c14)
                      by_cases c15 : (x7_2 ++ t175).size + 1 ≤ 9223372036854775807
                      · rw [if_pos c15] at H
                        have c15b0 := eq_true c15
                        have c15b1 : decide ((x7_2 ++ t175).size + 1 ≤ 9223372036854775807) = true := decide_eq_true c15
                        try have c15b3 : (9223372036854775807 < x7_2.size + t175.size + 1) = False := eq_false (Nat.not_lt.2 (by have h_ := c15; simp only [ByteArray.size_append] at h_; exact h_))
                        try have c15b2 : (9223372036854775807 < (x7_2 ++ t175).size + 1) = False := eq_false (Nat.not_lt.2 c15)
                        have H' := Aside0.mk H
                        clear H
                        obtain ⟨Ao16, co16, eo16⟩ := Kd.R_slice HO_4.out
                        subst eo16
                        have p174 : 0 ≤ (x8_2 : Int) := of_decide_eq_true (by first | (with_reducible assumption) | assumption)
                        have q174 : x8_2 < (t169.length : Int) := of_decide_eq_true (by first | (with_reducible assumption) | assumption)
                        obtain ⟨ad174, e174, hx174_0, hx174_1, hx174_2⟩ := at_T29 (Kd.R_reads' HO_4.out).2.2 x8_2 p174 q174
                        cases e174
                        replace p174 := eq_true p174
                        replace q174 := eq_true q174
                        go_wp2_with (first | (go_at_call 10; (with_reducible refine (majordomoref11_Text.calls ((rd_T29 t169 x8_2).f0) ((rd_T29 t169 x8_2).f1) ((rd_T29 t169 x8_2).f2) t175 _ A13.out).mono ?_); rintro e w17 ⟨rfl, hb⟩; have n0_ := Aside0.mk (Kd.R_below (by (with_reducible repeat (first | apply Kd.R_alloc | apply Kd.R_drewN | apply Kd.R_drew)); exact HO_4.out) hb); have n1_ := Aside0.mk (below_step (by repeat (first | (with_reducible first | exact HB.out | apply below_alloc | apply pw_below_drewN | apply below_drew1) | exact HB.out)) hb); clear HO_4; clear HB; have HO_4 := n0_; have HB := n1_; clear n0_ n1_; (try clear hb); (try clear hb2); (try clear hk); (try clear hi)))
                        repeat (go_quiet (first | (go_at_call 10; (with_reducible refine (majordomoref11_Text.calls ((rd_T29 t169 x8_2).f0) ((rd_T29 t169 x8_2).f1) ((rd_T29 t169 x8_2).f2) t175 _ A13.out).mono ?_); rintro e w17 ⟨rfl, hb⟩; have n0_ := Aside0.mk (Kd.R_below (by (with_reducible repeat (first | apply Kd.R_alloc | apply Kd.R_drewN | apply Kd.R_drew)); exact HO_4.out) hb); have n1_ := Aside0.mk (below_step (by repeat (first | (with_reducible first | exact HB.out | apply below_alloc | apply pw_below_drewN | apply below_drew1) | exact HB.out)) hb); clear HO_4; clear HB; have HO_4 := n0_; have HB := n1_; clear n0_ n1_; (try clear hb); (try clear hb2); (try clear hk); (try clear hi))); try go_wp2_with (first | (go_at_call 10; (with_reducible refine (majordomoref11_Text.calls ((rd_T29 t169 x8_2).f0) ((rd_T29 t169 x8_2).f1) ((rd_T29 t169 x8_2).f2) t175 _ A13.out).mono ?_); rintro e w17 ⟨rfl, hb⟩; have n0_ := Aside0.mk (Kd.R_below (by (with_reducible repeat (first | apply Kd.R_alloc | apply Kd.R_drewN | apply Kd.R_drew)); exact HO_4.out) hb); have n1_ := Aside0.mk (below_step (by repeat (first | (with_reducible first | exact HB.out | apply below_alloc | apply pw_below_drewN | apply below_drew1) | exact HB.out)) hb); clear HO_4; clear HB; have HO_4 := n0_; have HB := n1_; clear n0_ n1_; (try clear hb); (try clear hb2); (try clear hk); (try clear hi))))
                        go_roundg k2
                        case measure => have := HJ3.out; have := HK2.out; omega
                        case rel => exact ⟨((x7_2 ++ t175) ++ (⟨#[32]⟩ : ByteArray)), (wrap64 (x8_2 + 1)), (by first | rfl | (simp; done) | (simp [*]; done)), (by first | rfl | (simp; done) | (simp [*]; done)), H', ⟨by have := HJ3.out; have := HK2.out; omega⟩, ⟨by (with_reducible repeat (first | apply Kd.R_alloc | apply Kd.R_drewN | apply Kd.R_drew)); exact HO_4.out⟩, ⟨by repeat (first | (with_reducible first | exact HB.out | apply below_alloc | apply pw_below_drewN | apply below_drew1) | exact HB.out)⟩⟩
                      · rw [if_neg c15] at H
                        exact absurd H (by simp)
                    · rw [if_neg c14] at H
                      exact absurd H (by simp)
                  · rw [if_neg c12] at H
                    exact absurd H (by simp)
                · rw [if_neg c11] at H
                  have c11b0 : decide (x8_2 < 2000) = false := decide_eq_false c11
                  clear c11
                  have H' := Aside0.mk H
                  clear H
                  obtain ⟨Ao18, co18, eo18⟩ := Kd.R_slice HO_4.out
                  subst eo18
                  go_wp2
                  repeat (go_quiet (fail); try go_wp2)
                  go_meet
                  case rel => exact ⟨_, (x7_2), (by first | rfl | (simp; done) | (simp [*]; done)), H', ⟨by have := HJ3.out; have := HK2.out; first | omega | exact Nat.le_refl _⟩, ⟨by (with_reducible repeat (first | apply Kd.R_alloc | apply Kd.R_drewN | apply Kd.R_drew)); exact HO_4.out⟩, ⟨by repeat (first | (with_reducible first | exact HB.out | apply below_alloc | apply pw_below_drewN | apply below_drew1) | exact HB.out)⟩⟩
              · rw [if_neg c10] at H
                have c10b0 : decide (x8_2 < (t169.length : Int)) = false := decide_eq_false c10
                clear c10
                (first | rw [c10b0] | (simp only [i64_w, i32_w]; rw [c10b0]) | skip)
                have H' := Aside0.mk H
                clear H
                obtain ⟨Ao19, co19, eo19⟩ := Kd.R_slice HO_4.out
                subst eo19
                go_wp2
                repeat (go_quiet (fail); try go_wp2)
                go_meet
                case rel => exact ⟨_, (x7_2), (by first | rfl | (simp; done) | (simp [*]; done)), H', ⟨by have := HJ3.out; have := HK2.out; first | omega | exact Nat.le_refl _⟩, ⟨by (with_reducible repeat (first | apply Kd.R_alloc | apply Kd.R_drewN | apply Kd.R_drew)); exact HO_4.out⟩, ⟨by repeat (first | (with_reducible first | exact HB.out | apply below_alloc | apply pw_below_drewN | apply below_drew1) | exact HB.out)⟩⟩
        case rest =>
          clear HC9
          try clear c1
          try clear p1
          try clear q1
          try clear hx1
          try clear p2
          try clear c4
          try clear p6
          try clear c7
          try clear c8
          try clear c10
          try clear c10b0
          try clear c11
          try clear c11b0
          try clear c12
          try clear c12b0
          try clear c14
          try clear c14b0
          try clear c14b1
          try clear c14b2
          try clear c15
          try clear c15b0
          try clear c15b1
          try clear c15b2
          try clear p17
          try clear q17
          try clear hx17
          try clear hx174_0
          try clear hx174_1
          try clear hx174_2
          try clear p174
          try clear p2
          try clear q174
          obtain ⟨kq, x7_8, rfl, HA, HJ8, HO_4, HB⟩ := hcut
          cases kq with
          | zero => exact absurd HA.out (by simp [majordomolaw11_LexerJoins.j2])
          | succ kj8 =>
            have H := HA.out
            clear HA
            simp only [majordomolaw11_LexerJoins.j2] at H
            have HC20 := Aside0.mk H
            clear H
            go_upto_region 10 with (fail)
            repeat (go_quiet (fail); go_upto_region 10 with (fail))
            go_cut [52] (fun v52 wc => ∃ (kq : Nat) (x52_19 : Bool), v52 = .bool x52_19 ∧ Aside0 (majordomolaw11_LexerJoins.j3 kq t169 x7_8 x52_19 = some r) ∧ Aside0 (kq ≤ kj8) ∧ Aside0 (Kd.R k29 29 wc w.heap.size (fun _ => True) v172 t169) ∧ Aside0 (Below w.heap.size w wc))
            case first =>
              have H := HC20.out
              clear HC20
              by_cases c21 : (x7_8.size : Int) > 65536
              · rw [if_pos c21] at H
                have c21b0 : decide (65536 < (x7_8.size : Int)) = true := decide_eq_true c21
                have c21b1 : decide (65536 < x7_8.size) = true := decide_eq_true (by omega)
                clear c21
                (first | rw [c21b0] | (simp only [i64_w, i32_w]; rw [c21b0]) | skip)
                have H' := Aside0.mk H
                clear H
                go_wp2
                repeat (go_quiet (fail); try go_wp2)
                go_meet
                case rel => exact ⟨_, (true), (by first | rfl | (simp; done) | (simp [*]; done)), H', ⟨by have := HJ3.out; have := HJ8.out; first | omega | exact Nat.le_refl _⟩, ⟨by (with_reducible repeat (first | apply Kd.R_alloc | apply Kd.R_drewN | apply Kd.R_drew)); exact HO_4.out⟩, ⟨by repeat (first | (with_reducible first | exact HB.out | apply below_alloc | apply pw_below_drewN | apply below_drew1) | exact HB.out)⟩⟩
              · rw [if_neg c21] at H
                have c21b0 : decide (65536 < (x7_8.size : Int)) = false := decide_eq_false c21
                have c21b1 : decide (65536 < x7_8.size) = false := decide_eq_false (by omega)
                clear c21
                (first | rw [c21b0] | (simp only [i64_w, i32_w]; rw [c21b0]) | skip)
                have H' := Aside0.mk H
                clear H
                obtain ⟨Ao22, co22, eo22⟩ := Kd.R_slice HO_4.out
                subst eo22
                go_wp2
                repeat (go_quiet (fail); try go_wp2)
                go_meet
                case rel => exact ⟨_, (decide ((t169.length : Int) > 2000)), (by first | rfl | (simp; done) | (simp [*]; done)), H', ⟨by have := HJ3.out; have := HJ8.out; first | omega | exact Nat.le_refl _⟩, ⟨by (with_reducible repeat (first | apply Kd.R_alloc | apply Kd.R_drewN | apply Kd.R_drew)); exact HO_4.out⟩, ⟨by repeat (first | (with_reducible first | exact HB.out | apply below_alloc | apply pw_below_drewN | apply below_drew1) | exact HB.out)⟩⟩
            case rest =>
              clear HC20
              try clear c1
              try clear p1
              try clear q1
              try clear hx1
              try clear c2
              try clear p2
              try clear c4
              try clear p6
              try clear c7
              try clear c8
              try clear c10
              try clear c10b0
              try clear c11
              try clear c11b0
              try clear c12
              try clear c12b0
              try clear c14
              try clear c14b0
              try clear c14b1
              try clear c14b2
              try clear c15
              try clear c15b0
              try clear c15b1
              try clear c15b2
              try clear p17
              try clear q17
              try clear hx17
              try clear c21
              try clear c21b0
              try clear c21b1
              try clear hx174_0
              try clear hx174_1
              try clear hx174_2
              try clear p1
              try clear p17
              try clear p174
              try clear p2
              try clear p6
              try clear q1
              try clear q17
              try clear q174
              obtain ⟨kq, x52_19, rfl, HA, HJ19, HO_4, HB⟩ := hcut
              cases kq with
              | zero => exact absurd HA.out (by simp [majordomolaw11_LexerJoins.j3])
              | succ kj19 =>
                have H := HA.out
                clear HA
                simp only [majordomolaw11_LexerJoins.j3] at H
                by_cases c23 : x52_19 = true
                · subst c23
                  have H1 : (some true) = some r := by rw [if_pos rfl] at H; exact H
                  clear H
                  have H := H1
                  clear H1
                  obtain rfl := Option.some.inj H
                  go_wp2
                  repeat (go_quiet (fail); try go_wp2)
                  go_ret
                  exact ⟨by first | rfl | (simp [errW_none, errW_some] <;> rfl) | (simp [*, errW_none, errW_some] <;> rfl), by repeat (first | (with_reducible first | exact HB.out | apply below_alloc | apply pw_below_drewN | apply below_drew1) | exact HB.out)⟩
                · replace c23 := Bool.eq_false_iff.mpr c23
                  subst c23
                  have H1 : ((lexer_Lex.f kj19 x7_8).bind fun bt176 => (if bt176.2.2 = 0 then (majordomolaw11_LexerJoins.j4 kj19 t169 bt176.1 ((bt176.1.length : Int) != (t169.length : Int))) else (majordomolaw11_LexerJoins.j4 kj19 t169 bt176.1 true))) = some r := by rw [if_neg (show ¬ (false = true) by decide)] at H; exact H
                  clear H
                  have H := H1
                  clear H1
                  replace H := Option.bind_eq_some_iff.mp H
                  obtain ⟨⟨t176, t177, t178⟩, A240, H⟩ := H
                  replace H : (if t178 = 0 then (majordomolaw11_LexerJoins.j4 kj19 t169 t176 ((t176.length : Int) != (t169.length : Int))) else (majordomolaw11_LexerJoins.j4 kj19 t169 t176 true)) = some r := H
                  have A24 := Aside0.mk A240
                  clear A240
                  have HC25 := Aside0.mk H
                  clear H
                  go_upto_region 13 with (first | (go_at_call 9; (with_reducible refine (lexer_Lex.calls kj19 x7_8 t176 t177 t178 _ ?side1 A24.out).mono ?_); (case side1 => first | exact Amb.below HAMB.out (by repeat (first | (with_reducible first | exact HB.out | apply below_alloc | apply pw_below_drewN | apply below_drew1) | exact HB.out)) | exact Amb.drawn HAMB.out (by repeat (first | exact Drawn0.refl _ | apply Drawn0.step))); rintro e w26 ⟨v179, rfl, ho0, hb⟩; have n0_ := Aside0.mk (Kd.R_elder' (by (with_reducible repeat (first | apply Kd.R_alloc | apply Kd.R_drewN | apply Kd.R_drew)); exact HO_4.out) (Kd.R_base ho0) hb); have n1_ := Aside0.mk (Kd.R_lower (Kd.R_new' ho0 (Kd.R_lt (by (with_reducible repeat (first | apply Kd.R_alloc | apply Kd.R_drewN | apply Kd.R_drew)); exact HO_4.out))) (below_size (by repeat (first | (with_reducible first | exact HB.out | apply below_alloc | apply pw_below_drewN | apply below_drew1) | exact HB.out)))); have n2_ := Aside0.mk (below_step (by repeat (first | (with_reducible first | exact HB.out | apply below_alloc | apply pw_below_drewN | apply below_drew1) | exact HB.out)) hb); clear HO_4; clear HB; have HO_4 := n0_; have HO180 := n1_; have HB := n2_; clear n0_ n1_ n2_; (try clear hb); (try clear hb2); (try clear hk); (try clear hi); (try clear ho0)))
                  repeat (go_quiet (first | (go_at_call 9; (with_reducible refine (lexer_Lex.calls kj19 x7_8 t176 t177 t178 _ ?side1 A24.out).mono ?_); (case side1 => first | exact Amb.below HAMB.out (by repeat (first | (with_reducible first | exact HB.out | apply below_alloc | apply pw_below_drewN | apply below_drew1) | exact HB.out)) | exact Amb.drawn HAMB.out (by repeat (first | exact Drawn0.refl _ | apply Drawn0.step))); rintro e w26 ⟨v179, rfl, ho0, hb⟩; have n0_ := Aside0.mk (Kd.R_elder' (by (with_reducible repeat (first | apply Kd.R_alloc | apply Kd.R_drewN | apply Kd.R_drew)); exact HO_4.out) (Kd.R_base ho0) hb); have n1_ := Aside0.mk (Kd.R_lower (Kd.R_new' ho0 (Kd.R_lt (by (with_reducible repeat (first | apply Kd.R_alloc | apply Kd.R_drewN | apply Kd.R_drew)); exact HO_4.out))) (below_size (by repeat (first | (with_reducible first | exact HB.out | apply below_alloc | apply pw_below_drewN | apply below_drew1) | exact HB.out)))); have n2_ := Aside0.mk (below_step (by repeat (first | (with_reducible first | exact HB.out | apply below_alloc | apply pw_below_drewN | apply below_drew1) | exact HB.out)) hb); clear HO_4; clear HB; have HO_4 := n0_; have HO180 := n1_; have HB := n2_; clear n0_ n1_ n2_; (try clear hb); (try clear hb2); (try clear hk); (try clear hi); (try clear ho0))); go_upto_region 13 with (first | (go_at_call 9; (with_reducible refine (lexer_Lex.calls kj19 x7_8 t176 t177 t178 _ ?side1 A24.out).mono ?_); (case side1 => first | exact Amb.below HAMB.out (by repeat (first | (with_reducible first | exact HB.out | apply below_alloc | apply pw_below_drewN | apply below_drew1) | exact HB.out)) | exact Amb.drawn HAMB.out (by repeat (first | exact Drawn0.refl _ | apply Drawn0.step))); rintro e w26 ⟨v179, rfl, ho0, hb⟩; have n0_ := Aside0.mk (Kd.R_elder' (by (with_reducible repeat (first | apply Kd.R_alloc | apply Kd.R_drewN | apply Kd.R_drew)); exact HO_4.out) (Kd.R_base ho0) hb); have n1_ := Aside0.mk (Kd.R_lower (Kd.R_new' ho0 (Kd.R_lt (by (with_reducible repeat (first | apply Kd.R_alloc | apply Kd.R_drewN | apply Kd.R_drew)); exact HO_4.out))) (below_size (by repeat (first | (with_reducible first | exact HB.out | apply below_alloc | apply pw_below_drewN | apply below_drew1) | exact HB.out)))); have n2_ := Aside0.mk (below_step (by repeat (first | (with_reducible first | exact HB.out | apply below_alloc | apply pw_below_drewN | apply below_drew1) | exact HB.out)) hb); clear HO_4; clear HB; have HO_4 := n0_; have HO180 := n1_; have HB := n2_; clear n0_ n1_ n2_; (try clear hb); (try clear hb2); (try clear hk); (try clear hi); (try clear ho0))))
                  (try simp only [Act.put, List.setIfInBounds_toArray, List.set_cons_zero, List.set_cons_succ])
                  go_cut [67] (fun v67 wc => ∃ (kq : Nat) (x67_24 : Bool), v67 = .bool x67_24 ∧ Aside0 (majordomolaw11_LexerJoins.j4 kq t169 t176 x67_24 = some r) ∧ Aside0 (kq ≤ kj19) ∧ Aside0 (Kd.R k29 29 wc w.heap.size (fun k_ => some k_ ≠ (v179 : Value).ownBlock) v172 t169) ∧ Aside0 (Kd.R k29 29 wc w.heap.size (fun k_ => some k_ ≠ (v172 : Value).ownBlock) v179 t176) ∧ Aside0 (Below w.heap.size w wc))
                  case first =>
                    have H := HC25.out
                    clear HC25
                    by_cases c27 : t178 = 0
                    · rw [if_pos c27] at H
                      have c27b0 : (t178 == 0) = true := beq_iff_eq.mpr c27
                      have c27b1 : (t178 != 0) = false := bne_eq_false_iff_eq.mpr c27
                      clear c27
                      (first | rw [c27b0] | (simp only [i64_w, i32_w]; rw [c27b0]) | skip)
                      have H' := Aside0.mk H
                      clear H
                      obtain ⟨Ao28, co28, eo28⟩ := Kd.R_slice HO180.out
                      subst eo28
                      obtain ⟨Ao29, co29, eo29⟩ := Kd.R_slice HO_4.out
                      subst eo29
                      go_wp2
                      repeat (go_quiet (fail); try go_wp2)
                      go_meet
                      case rel => exact ⟨_, (((t176.length : Int) != (t169.length : Int))), (by first | rfl | (simp; done) | (simp [*]; done)), H', ⟨by have := HJ3.out; have := HJ8.out; have := HJ19.out; first | omega | exact Nat.le_refl _⟩, ⟨by (with_reducible repeat (first | apply Kd.R_alloc | apply Kd.R_drewN | apply Kd.R_drew)); exact Kd.R_mono HO_4.out (fun _ hk => hk.2)⟩, ⟨by (with_reducible repeat (first | apply Kd.R_alloc | apply Kd.R_drewN | apply Kd.R_drew)); exact Kd.R_mono HO180.out (fun _ hk => hk.2)⟩, ⟨by repeat (first | (with_reducible first | exact HB.out | apply below_alloc | apply pw_below_drewN | apply below_drew1) | exact HB.out)⟩⟩
                    · rw [if_neg c27] at H
                      have c27b0 : (t178 == 0) = false := beq_eq_false_iff_ne.mpr c27
                      have c27b1 : (t178 != 0) = true := bne_iff_ne.mpr c27
                      (first | rw [c27b0] | (simp only [i64_w, i32_w]; rw [c27b0]) | skip)
                      have H' := Aside0.mk H
                      clear H
                      go_wp2
                      repeat (go_quiet (fail); try go_wp2)
                      go_meet
                      case rel => exact ⟨_, (true), (by first | rfl | (simp; done) | (simp [*]; done)), H', ⟨by have := HJ3.out; have := HJ8.out; have := HJ19.out; first | omega | exact Nat.le_refl _⟩, ⟨by (with_reducible repeat (first | apply Kd.R_alloc | apply Kd.R_drewN | apply Kd.R_drew)); exact Kd.R_mono HO_4.out (fun _ hk => hk.2)⟩, ⟨by (with_reducible repeat (first | apply Kd.R_alloc | apply Kd.R_drewN | apply Kd.R_drew)); exact Kd.R_mono HO180.out (fun _ hk => hk.2)⟩, ⟨by repeat (first | (with_reducible first | exact HB.out | apply below_alloc | apply pw_below_drewN | apply below_drew1) | exact HB.out)⟩⟩
                  case rest =>
                    clear HC25
                    try clear c1
                    try clear p1
                    try clear q1
                    try clear hx1
                    try clear c2
                    try clear p2
                    try clear c4
                    try clear p6
                    try clear c7
                    try clear c8
                    try clear c10
                    try clear c10b0
                    try clear c11
                    try clear c11b0
                    try clear c12
                    try clear c12b0
                    try clear c14
                    try clear c14b0
                    try clear c14b1
                    try clear c14b2
                    try clear c15
                    try clear c15b0
                    try clear c15b1
                    try clear c15b2
                    try clear p17
                    try clear q17
                    try clear hx17
                    try clear c21
                    try clear c21b0
                    try clear c21b1
                    try clear c23
                    try clear c27
                    try clear c27b0
                    try clear c27b1
                    try clear hx174_0
                    try clear hx174_1
                    try clear hx174_2
                    try clear p1
                    try clear p17
                    try clear p174
                    try clear p2
                    try clear p6
                    try clear q1
                    try clear q17
                    try clear q174
                    obtain ⟨kq, x67_24, rfl, HA, HJ24, HO_4, HO_9, HB⟩ := hcut
                    cases kq with
                    | zero => exact absurd HA.out (by simp [majordomolaw11_LexerJoins.j4])
                    | succ kj24 =>
                      have H := HA.out
                      clear HA
                      simp only [majordomolaw11_LexerJoins.j4] at H
                      by_cases c30 : x67_24 = true
                      · subst c30
                        have H1 : (some false) = some r := by rw [if_pos rfl] at H; exact H
                        clear H
                        have H := H1
                        clear H1
                        obtain rfl := Option.some.inj H
                        go_wp2
                        repeat (go_quiet (fail); try go_wp2)
                        go_ret
                        exact ⟨by first | rfl | (simp [errW_none, errW_some] <;> rfl) | (simp [*, errW_none, errW_some] <;> rfl), by repeat (first | (with_reducible first | exact HB.out | apply below_alloc | apply pw_below_drewN | apply below_drew1) | exact HB.out)⟩
                      · replace c30 := Bool.eq_false_iff.mpr c30
                        subst c30
                        have H1 : (majordomolaw11_LexerJoins.l1 kj24 t169 t176 0) = some r := by rw [if_neg (show ¬ (false = true) by decide)] at H; exact H
                        clear H
                        have H := H1
                        clear H1
                        have H' := Aside0.mk H
                        clear H
                        go_wp2
                        repeat (go_quiet (fail); try go_wp2)
                        go_loopg [12] kj24 (fun kq v12 w' => ∃ (x12_5 : Int), v12 = .int .i64 x12_5 ∧ Aside0 (majordomolaw11_LexerJoins.l1 kq t169 t176 x12_5 = some r) ∧ Aside0 (kq ≤ kj24) ∧ Aside0 (Kd.R k29 29 w' w.heap.size (fun k_ => some k_ ≠ (v179 : Value).ownBlock) v172 t169) ∧ Aside0 (Kd.R k29 29 w' w.heap.size (fun k_ => some k_ ≠ (v172 : Value).ownBlock) v179 t176) ∧ Aside0 (Below w.heap.size w w'))
                        case atStart => exact ⟨(0), (by first | rfl | (simp; done) | (simp [*]; done)), H', ⟨Nat.le_refl _⟩, ⟨by (with_reducible repeat (first | apply Kd.R_alloc | apply Kd.R_drewN | apply Kd.R_drew)); exact HO_4.out⟩, ⟨by (with_reducible repeat (first | apply Kd.R_alloc | apply Kd.R_drewN | apply Kd.R_drew)); exact HO_9.out⟩, ⟨by repeat (first | (with_reducible first | exact HB.out | apply below_alloc | apply pw_below_drewN | apply below_drew1) | exact HB.out)⟩⟩
                        case round =>
                          clear H'
                          try clear c1
                          try clear p1
                          try clear q1
                          try clear hx1
                          try clear c2
                          try clear p2
                          try clear c3
                          try clear c4
                          try clear p6
                          try clear c7
                          try clear c8
                          try clear c10
                          try clear c10b0
                          try clear c11
                          try clear c11b0
                          try clear c12
                          try clear c12b0
                          try clear c14
                          try clear c14b0
                          try clear c14b1
                          try clear c14b2
                          try clear c15
                          try clear c15b0
                          try clear c15b1
                          try clear c15b2
                          try clear p17
                          try clear q17
                          try clear hx17
                          try clear c21
                          try clear c21b0
                          try clear c21b1
                          try clear c23
                          try clear c27
                          try clear c27b0
                          try clear c27b1
                          try clear c30
                          try clear hx174_0
                          try clear hx174_1
                          try clear hx174_2
                          try clear p1
                          try clear p17
                          try clear p174
                          try clear p2
                          try clear p6
                          try clear q1
                          try clear q17
                          try clear q174
                          obtain ⟨x12_5, rfl, HA, HK5, HO_4, HO_9, HB⟩ := hrel
                          cases gk with
                          | zero => exact absurd HA.out (by simp [majordomolaw11_LexerJoins.l1])
                          | succ k5 =>
                            have H := HA.out
                            clear HA
                            simp only [majordomolaw11_LexerJoins.l1] at H
                            by_cases c31 : x12_5 < (t169.length : Int)
                            · rw [if_pos c31] at H
                              have c31b0 : decide (x12_5 < (t169.length : Int)) = true := decide_eq_true c31
                              clear c31
                              by_cases c32 : 0 ≤ x12_5
                              · rw [if_pos c32] at H
                                have c32b0 : decide (0 ≤ x12_5) = true := decide_eq_true c32
                                clear c32
                                by_cases c33 : x12_5 < (t176.length : Int)
                                · rw [if_pos c33] at H
                                  have c33b0 : decide (x12_5 < (t176.length : Int)) = true := decide_eq_true c33
                                  clear c33
                                  by_cases c34 : ((rd_T29 t176 x12_5).f0) = ((rd_T29 t169 x12_5).f0)
                                  · rw [if_pos c34] at H
                                    have c34b0 : (((rd_T29 t176 x12_5).f0) == ((rd_T29 t169 x12_5).f0)) = true := beq_iff_eq.mpr c34
                                    have c34b1 : (((rd_T29 t176 x12_5).f0) != ((rd_T29 t169 x12_5).f0)) = false := bne_eq_false_iff_eq.mpr c34
                                    clear c34
                                    by_cases c35 : ((rd_T29 t176 x12_5).f1).toList = ((rd_T29 t169 x12_5).f1).toList
                                    · rw [if_pos c35] at H
                                      have c35b0 : (((rd_T29 t176 x12_5).f1).toList == ((rd_T29 t169 x12_5).f1).toList) = true := beq_iff_eq.mpr c35
                                      have c35b1 : (((rd_T29 t176 x12_5).f1).toList != ((rd_T29 t169 x12_5).f1).toList) = false := bne_eq_false_iff_eq.mpr c35
                                      clear c35
                                      have H' := Aside0.mk H
                                      clear H
                                      obtain ⟨Ao36, co36, eo36⟩ := Kd.R_slice HO_4.out
                                      subst eo36
                                      obtain ⟨Ao37, co37, eo37⟩ := Kd.R_slice HO_9.out
                                      subst eo37
                                      have p181 : 0 ≤ (x12_5 : Int) := of_decide_eq_true (by first | (with_reducible assumption) | assumption)
                                      have q181 : x12_5 < (t176.length : Int) := of_decide_eq_true (by first | (with_reducible assumption) | assumption)
                                      obtain ⟨ad181, e181, hx181_0, hx181_1, hx181_2⟩ := at_T29 (Kd.R_reads' HO_9.out).2.2 x12_5 p181 q181
                                      cases e181
                                      replace p181 := eq_true p181
                                      replace q181 := eq_true q181
                                      have p182 : 0 ≤ (x12_5 : Int) := of_decide_eq_true (by first | (with_reducible assumption) | assumption)
                                      have q182 : x12_5 < (t169.length : Int) := of_decide_eq_true (by first | (with_reducible assumption) | assumption)
                                      obtain ⟨ad182, e182, hx182_0, hx182_1, hx182_2⟩ := at_T29 (Kd.R_reads' HO_4.out).2.2 x12_5 p182 q182
                                      cases e182
                                      replace p182 := eq_true p182
                                      replace q182 := eq_true q182
                                      have p183 : 0 ≤ (x12_5 : Int) := of_decide_eq_true (by first | (with_reducible assumption) | assumption)
                                      have q183 : x12_5 < (t176.length : Int) := of_decide_eq_true (by first | (with_reducible assumption) | assumption)
                                      obtain ⟨ad183, e183, hx183_0, hx183_1, hx183_2⟩ := at_T29 (Kd.R_reads' HO_9.out).2.2 x12_5 p183 q183
                                      obtain rfl : ad181 = ad183 := (by injection e183)
                                      replace p183 := eq_true p183
                                      replace q183 := eq_true q183
                                      have p184 : 0 ≤ (x12_5 : Int) := of_decide_eq_true (by first | (with_reducible assumption) | assumption)
                                      have q184 : x12_5 < (t169.length : Int) := of_decide_eq_true (by first | (with_reducible assumption) | assumption)
                                      obtain ⟨ad184, e184, hx184_0, hx184_1, hx184_2⟩ := at_T29 (Kd.R_reads' HO_4.out).2.2 x12_5 p184 q184
                                      obtain rfl : ad182 = ad184 := (by injection e184)
                                      replace p184 := eq_true p184
                                      replace q184 := eq_true q184
                                      go_wp2
                                      repeat (go_quiet (fail); try go_wp2)
                                      go_roundg k5
                                      case measure => have := HJ3.out; have := HJ8.out; have := HJ19.out; have := HJ24.out; have := HK5.out; omega
                                      case rel => exact ⟨(wrap64 (x12_5 + 1)), (by first | rfl | (simp; done) | (simp [*]; done)), H', ⟨by have := HJ3.out; have := HJ8.out; have := HJ19.out; have := HJ24.out; have := HK5.out; omega⟩, ⟨by (with_reducible repeat (first | apply Kd.R_alloc | apply Kd.R_drewN | apply Kd.R_drew)); exact HO_4.out⟩, ⟨by (with_reducible repeat (first | apply Kd.R_alloc | apply Kd.R_drewN | apply Kd.R_drew)); exact HO_9.out⟩, ⟨by repeat (first | (with_reducible first | exact HB.out | apply below_alloc | apply pw_below_drewN | apply below_drew1) | exact HB.out)⟩⟩
                                    · rw [if_neg c35] at H
                                      have c35b0 : (((rd_T29 t176 x12_5).f1).toList == ((rd_T29 t169 x12_5).f1).toList) = false := beq_eq_false_iff_ne.mpr c35
                                      have c35b1 : (((rd_T29 t176 x12_5).f1).toList != ((rd_T29 t169 x12_5).f1).toList) = true := bne_iff_ne.mpr c35
                                      obtain rfl := Option.some.inj H
                                      obtain ⟨Ao38, co38, eo38⟩ := Kd.R_slice HO_4.out
                                      subst eo38
                                      obtain ⟨Ao39, co39, eo39⟩ := Kd.R_slice HO_9.out
                                      subst eo39
                                      have p181 : 0 ≤ (x12_5 : Int) := of_decide_eq_true (by first | (with_reducible assumption) | assumption)
                                      have q181 : x12_5 < (t176.length : Int) := of_decide_eq_true (by first | (with_reducible assumption) | assumption)
                                      obtain ⟨ad181, e181, hx181_0, hx181_1, hx181_2⟩ := at_T29 (Kd.R_reads' HO_9.out).2.2 x12_5 p181 q181
                                      cases e181
                                      replace p181 := eq_true p181
                                      replace q181 := eq_true q181
                                      have p182 : 0 ≤ (x12_5 : Int) := of_decide_eq_true (by first | (with_reducible assumption) | assumption)
                                      have q182 : x12_5 < (t169.length : Int) := of_decide_eq_true (by first | (with_reducible assumption) | assumption)
                                      obtain ⟨ad182, e182, hx182_0, hx182_1, hx182_2⟩ := at_T29 (Kd.R_reads' HO_4.out).2.2 x12_5 p182 q182
                                      cases e182
                                      replace p182 := eq_true p182
                                      replace q182 := eq_true q182
                                      have p183 : 0 ≤ (x12_5 : Int) := of_decide_eq_true (by first | (with_reducible assumption) | assumption)
                                      have q183 : x12_5 < (t176.length : Int) := of_decide_eq_true (by first | (with_reducible assumption) | assumption)
                                      obtain ⟨ad183, e183, hx183_0, hx183_1, hx183_2⟩ := at_T29 (Kd.R_reads' HO_9.out).2.2 x12_5 p183 q183
                                      obtain rfl : ad181 = ad183 := (by injection e183)
                                      replace p183 := eq_true p183
                                      replace q183 := eq_true q183
                                      have p184 : 0 ≤ (x12_5 : Int) := of_decide_eq_true (by first | (with_reducible assumption) | assumption)
                                      have q184 : x12_5 < (t169.length : Int) := of_decide_eq_true (by first | (with_reducible assumption) | assumption)
                                      obtain ⟨ad184, e184, hx184_0, hx184_1, hx184_2⟩ := at_T29 (Kd.R_reads' HO_4.out).2.2 x12_5 p184 q184
                                      obtain rfl : ad182 = ad184 := (by injection e184)
                                      replace p184 := eq_true p184
                                      replace q184 := eq_true q184
                                      go_wp2
                                      repeat (go_quiet (fail); try go_wp2)
                                      go_ret
                                      exact ⟨by first | rfl | (simp [errW_none, errW_some] <;> rfl) | (simp [*, errW_none, errW_some] <;> rfl), by repeat (first | (with_reducible first | exact HB.out | apply below_alloc | apply pw_below_drewN | apply below_drew1) | exact HB.out)⟩
                                  · rw [if_neg c34] at H
                                    have c34b0 : (((rd_T29 t176 x12_5).f0) == ((rd_T29 t169 x12_5).f0)) = false := beq_eq_false_iff_ne.mpr c34
                                    have c34b1 : (((rd_T29 t176 x12_5).f0) != ((rd_T29 t169 x12_5).f0)) = true := bne_iff_ne.mpr c34
                                    obtain rfl := Option.some.inj H
                                    obtain ⟨Ao40, co40, eo40⟩ := Kd.R_slice HO_4.out
                                    subst eo40
                                    obtain ⟨Ao41, co41, eo41⟩ := Kd.R_slice HO_9.out
                                    subst eo41
                                    have p181 : 0 ≤ (x12_5 : Int) := of_decide_eq_true (by first | (with_reducible assumption) | assumption)
                                    have q181 : x12_5 < (t176.length : Int) := of_decide_eq_true (by first | (with_reducible assumption) | assumption)
                                    obtain ⟨ad181, e181, hx181_0, hx181_1, hx181_2⟩ := at_T29 (Kd.R_reads' HO_9.out).2.2 x12_5 p181 q181
                                    cases e181
                                    replace p181 := eq_true p181
                                    replace q181 := eq_true q181
                                    have p182 : 0 ≤ (x12_5 : Int) := of_decide_eq_true (by first | (with_reducible assumption) | assumption)
                                    have q182 : x12_5 < (t169.length : Int) := of_decide_eq_true (by first | (with_reducible assumption) | assumption)
                                    obtain ⟨ad182, e182, hx182_0, hx182_1, hx182_2⟩ := at_T29 (Kd.R_reads' HO_4.out).2.2 x12_5 p182 q182
                                    cases e182
                                    replace p182 := eq_true p182
                                    replace q182 := eq_true q182
                                    go_wp2
                                    repeat (go_quiet (fail); try go_wp2)
                                    go_ret
                                    exact ⟨by first | rfl | (simp [errW_none, errW_some] <;> rfl) | (simp [*, errW_none, errW_some] <;> rfl), by repeat (first | (with_reducible first | exact HB.out | apply below_alloc | apply pw_below_drewN | apply below_drew1) | exact HB.out)⟩
                                · rw [if_neg c33] at H
                                  exact absurd H (by simp)
                              · rw [if_neg c32] at H
                                exact absurd H (by simp)
                            · rw [if_neg c31] at H
                              have c31b0 : decide (x12_5 < (t169.length : Int)) = false := decide_eq_false c31
                              clear c31
                              obtain rfl := Option.some.inj H
                              obtain ⟨Ao42, co42, eo42⟩ := Kd.R_slice HO_4.out
                              subst eo42
                              go_wp2
                              repeat (go_quiet (fail); try go_wp2)
                              go_ret
                              exact ⟨by first | rfl | (simp [errW_none, errW_some] <;> rfl) | (simp [*, errW_none, errW_some] <;> rfl), by repeat (first | (with_reducible first | exact HB.out | apply below_alloc | apply pw_below_drewN | apply below_drew1) | exact HB.out)⟩

end Go.Proofs.YtjjhopcbipedaaaDoor.PX
