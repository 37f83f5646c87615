-- printed by wip/printx (a program of this session's, over the kit's print)
import Derived.Test.YtkcfjnacnabdaaaPGx0
import Derived.Test.YtkcfjnacnabdaaaPGx3
import Derived.Test.YtkcfjnacnabdaaaPGx4
namespace Go.Proofs.Ytkcfjnacnabdaaa.PG
open Go.RowKit Go.Proofs.YtkcfjnacnabdaaaW.PrintWords Go.Proofs.YtkcfjnacnabdaaaW.PrintLast Go.Proofs.YtkcfjnacnabdaaaW.PrintMore
attribute [local go_sem] max2_int min2_int max_two min_two max_three min_three max_four min_four Go.Proofs.Ytkcfjnacnabdaaa.PxMore.isSome_setCell   -- for this text's walks alone
set_option linter.unusedVariables false
set_option linter.unusedSimpArgs false

/-! ### majordomolaw08_GraphGoes: function 4 -/
mutual
def majordomolaw08_GraphGoes.j0 : Nat → Int → List (S32) → Bool → List Int → Bool → Option (Bool)
  | 0, _, _, _, _, _ => none
  | k + 1, x0, x1, x5, x6, x26 => if x26 = true then (if x5 = true then (some ((x6.length : Int) == 0)) else (some false)) else (if 0 ≤ x0 then (if (x0 : Int).toNat ≤ 35184372088832 then (majordomolaw08_GraphGoes.l0 k x0 x1 x6 (List.replicate (x0 : Int).toNat 0) 0) else (none)) else (none))
def majordomolaw08_GraphGoes.l0 : Nat → Int → List (S32) → List Int → List Int → Int → Option (Bool)
  | 0, _, _, _, _, _ => none
  | k + 1, x0, x1, x6, x9, x10 => if x10 < x0 then (if 0 ≤ x10 then (if x10 < (x9.length : Int) then (majordomolaw08_GraphGoes.l0 k x0 x1 x6 (x9.set (x10 : Int).toNat (-1)) (wrap64 (x10 + 1))) else (none)) else (none)) else (majordomolaw08_GraphGoes.l1 k x0 x1 x6 x9 0)
def majordomolaw08_GraphGoes.l1 : Nat → Int → List (S32) → List Int → List Int → Int → Option (Bool)
  | 0, _, _, _, _, _ => none
  | k + 1, x0, x1, x6, x9, x11 => if x11 < (x6.length : Int) then (if 0 ≤ x11 then (if (rd x6 x11) < 0 then (some false) else (if (rd x6 x11) ≥ x0 then (some false) else (if 0 ≤ (rd x6 x11) then (if (rd x6 x11) < (x9.length : Int) then (if (rd x9 (rd x6 x11)) ≥ 0 then (some false) else (majordomolaw08_GraphGoes.l1 k x0 x1 x6 (x9.set ((rd x6 x11) : Int).toNat x11) (wrap64 (x11 + 1)))) else (none)) else (none)))) else (none)) else (majordomolaw08_GraphGoes.l2 k x0 x1 x6 x9 0)
def majordomolaw08_GraphGoes.l2 : Nat → Int → List (S32) → List Int → List Int → Int → Option (Bool)
  | 0, _, _, _, _, _ => none
  | k + 1, x0, x1, x6, x9, x12 => if x12 < (x1.length : Int) then (if 0 ≤ x12 then (if 0 ≤ ((rd_T32 x1 x12).f0) then (if ((rd_T32 x1 x12).f0) < (x9.length : Int) then (if 0 ≤ ((rd_T32 x1 x12).f1) then (if ((rd_T32 x1 x12).f1) < (x9.length : Int) then (if (rd x9 ((rd_T32 x1 x12).f0)) ≥ (rd x9 ((rd_T32 x1 x12).f1)) then (some false) else (majordomolaw08_GraphGoes.l2 k x0 x1 x6 x9 (wrap64 (x12 + 1)))) else (none)) else (none)) else (none)) else (none)) else (none)) else (some ((x6.length : Int) == x0))
end
def majordomolaw08_GraphGoes.f (k : Nat) (a0 : Int) (l1 : List (S32)) : Option (Bool) := (majordomolaw08_shown.f k).bind fun t195 => ((graph_Order.f k a0 l1).bind fun bt196 => (if t195 = true then (majordomolaw08_GraphGoes.j0 k a0 l1 t195 bt196.1 (bt196.2.2 != 0)) else (majordomolaw08_GraphGoes.j0 k a0 l1 t195 bt196.1 true)))
theorem majordomolaw08_GraphGoes.mono_l : ∀ k, (∀ y0 y1 y2 y3 y4, LeO (majordomolaw08_GraphGoes.j0 k y0 y1 y2 y3 y4) (majordomolaw08_GraphGoes.j0 (k + 1) y0 y1 y2 y3 y4)) ∧ (∀ y0 y1 y2 y3 y4, LeO (majordomolaw08_GraphGoes.l0 k y0 y1 y2 y3 y4) (majordomolaw08_GraphGoes.l0 (k + 1) y0 y1 y2 y3 y4)) ∧ (∀ y0 y1 y2 y3 y4, LeO (majordomolaw08_GraphGoes.l1 k y0 y1 y2 y3 y4) (majordomolaw08_GraphGoes.l1 (k + 1) y0 y1 y2 y3 y4)) ∧ (∀ y0 y1 y2 y3 y4, LeO (majordomolaw08_GraphGoes.l2 k y0 y1 y2 y3 y4) (majordomolaw08_GraphGoes.l2 (k + 1) y0 y1 y2 y3 y4))
  | 0 => ⟨fun _ _ _ _ _ r h => by simp [majordomolaw08_GraphGoes.j0] at h, fun _ _ _ _ _ r h => by simp [majordomolaw08_GraphGoes.l0] at h, fun _ _ _ _ _ r h => by simp [majordomolaw08_GraphGoes.l1] at h, fun _ _ _ _ _ r h => by simp [majordomolaw08_GraphGoes.l2] at h⟩
  | k + 1 => by
    obtain ⟨ih0, ih1, ih2, ih3⟩ := majordomolaw08_GraphGoes.mono_l k
    refine ⟨?_, ?_, ?_, ?_⟩
    · intro y0 y1 y2 y3 y4
      unfold majordomolaw08_GraphGoes.j0
      repeat' first
      | (with_reducible exact ih0 _ _ _ _ _)
      | (with_reducible exact ih1 _ _ _ _ _)
      | (with_reducible exact ih2 _ _ _ _ _)
      | (with_reducible exact ih3 _ _ _ _ _)
      | (with_reducible exact graph_Order.mono _ _ _)
      | (with_reducible exact majordomolaw08_shown.mono _)
      | (with_reducible exact LeO.refl _)
      | (with_reducible exact LeO.none _)
      | (with_reducible refine LeO.ite ?_ ?_)
      | (with_reducible refine LeO.bind ?_ (fun _ => ?_))
      | exact ih0 _ _ _ _ _
      | exact ih1 _ _ _ _ _
      | exact ih2 _ _ _ _ _
      | exact ih3 _ _ _ _ _
      | exact graph_Order.mono _ _ _
      | exact majordomolaw08_shown.mono _
      | exact LeO.none _
      | refine LeO.ite ?_ ?_
      | refine LeO.bind ?_ (fun _ => ?_)
    · intro y0 y1 y2 y3 y4
      unfold majordomolaw08_GraphGoes.l0
      repeat' first
      | (with_reducible exact ih0 _ _ _ _ _)
      | (with_reducible exact ih1 _ _ _ _ _)
      | (with_reducible exact ih2 _ _ _ _ _)
      | (with_reducible exact ih3 _ _ _ _ _)
      | (with_reducible exact graph_Order.mono _ _ _)
      | (with_reducible exact majordomolaw08_shown.mono _)
      | (with_reducible exact LeO.refl _)
      | (with_reducible exact LeO.none _)
      | (with_reducible refine LeO.ite ?_ ?_)
      | (with_reducible refine LeO.bind ?_ (fun _ => ?_))
      | exact ih0 _ _ _ _ _
      | exact ih1 _ _ _ _ _
      | exact ih2 _ _ _ _ _
      | exact ih3 _ _ _ _ _
      | exact graph_Order.mono _ _ _
      | exact majordomolaw08_shown.mono _
      | exact LeO.none _
      | refine LeO.ite ?_ ?_
      | refine LeO.bind ?_ (fun _ => ?_)
    · intro y0 y1 y2 y3 y4
      unfold majordomolaw08_GraphGoes.l1
      repeat' first
      | (with_reducible exact ih0 _ _ _ _ _)
      | (with_reducible exact ih1 _ _ _ _ _)
      | (with_reducible exact ih2 _ _ _ _ _)
      | (with_reducible exact ih3 _ _ _ _ _)
      | (with_reducible exact graph_Order.mono _ _ _)
      | (with_reducible exact majordomolaw08_shown.mono _)
      | (with_reducible exact LeO.refl _)
      | (with_reducible exact LeO.none _)
      | (with_reducible refine LeO.ite ?_ ?_)
      | (with_reducible refine LeO.bind ?_ (fun _ => ?_))
      | exact ih0 _ _ _ _ _
      | exact ih1 _ _ _ _ _
      | exact ih2 _ _ _ _ _
      | exact ih3 _ _ _ _ _
      | exact graph_Order.mono _ _ _
      | exact majordomolaw08_shown.mono _
      | exact LeO.none _
      | refine LeO.ite ?_ ?_
      | refine LeO.bind ?_ (fun _ => ?_)
    · intro y0 y1 y2 y3 y4
      unfold majordomolaw08_GraphGoes.l2
      repeat' first
      | (with_reducible exact ih0 _ _ _ _ _)
      | (with_reducible exact ih1 _ _ _ _ _)
      | (with_reducible exact ih2 _ _ _ _ _)
      | (with_reducible exact ih3 _ _ _ _ _)
      | (with_reducible exact graph_Order.mono _ _ _)
      | (with_reducible exact majordomolaw08_shown.mono _)
      | (with_reducible exact LeO.refl _)
      | (with_reducible exact LeO.none _)
      | (with_reducible refine LeO.ite ?_ ?_)
      | (with_reducible refine LeO.bind ?_ (fun _ => ?_))
      | exact ih0 _ _ _ _ _
      | exact ih1 _ _ _ _ _
      | exact ih2 _ _ _ _ _
      | exact ih3 _ _ _ _ _
      | exact graph_Order.mono _ _ _
      | exact majordomolaw08_shown.mono _
      | exact LeO.none _
      | refine LeO.ite ?_ ?_
      | refine LeO.bind ?_ (fun _ => ?_)
theorem majordomolaw08_GraphGoes.mono : ∀ a0 a1 k, LeO (majordomolaw08_GraphGoes.f k a0 a1) (majordomolaw08_GraphGoes.f (k + 1) a0 a1) := by
  intro a0 a1 k
  obtain ⟨ih0, ih1, ih2, ih3⟩ := majordomolaw08_GraphGoes.mono_l k
  unfold majordomolaw08_GraphGoes.f
  repeat' first
      | (with_reducible exact ih0 _ _ _ _ _)
      | (with_reducible exact ih1 _ _ _ _ _)
      | (with_reducible exact ih2 _ _ _ _ _)
      | (with_reducible exact ih3 _ _ _ _ _)
      | (with_reducible exact graph_Order.mono _ _ _)
      | (with_reducible exact majordomolaw08_shown.mono _)
      | (with_reducible exact LeO.refl _)
      | (with_reducible exact LeO.none _)
      | (with_reducible refine LeO.ite ?_ ?_)
      | (with_reducible refine LeO.bind ?_ (fun _ => ?_))
      | exact ih0 _ _ _ _ _
      | exact ih1 _ _ _ _ _
      | exact ih2 _ _ _ _ _
      | exact ih3 _ _ _ _ _
      | exact graph_Order.mono _ _ _
      | exact majordomolaw08_shown.mono _
      | exact LeO.none _
      | refine LeO.ite ?_ ?_
      | refine LeO.bind ?_ (fun _ => ?_)
set_option maxHeartbeats 8000000 in
set_option maxRecDepth 100000 in
theorem majordomolaw08_GraphGoes.calls (k : Nat) (a0 : Int) (A1 : Option Addr) (c1 : Nat) (l1 : List (S32)) (r : Bool) (w : World) (hr1 : Kd.C k32 w A1 l1.length l1) (hc1 : l1.length ≤ c1) (h : majordomolaw08_GraphGoes.f k a0 l1 = some r) :
    Calls Try.prog 4 #[.int .i64 a0, .slice A1 l1.length c1] w fun e w' => e = .returned (.bool r) ∧ Below w.heap.size w w' := by
  have HR1 := Aside0.mk hr1
  have HC1 := Aside0.mk hc1
  clear hr1 hc1
  have HB := Aside0.mk (Below.refl w.heap.size w)
  have H : ((majordomolaw08_shown.f k).bind fun t195 => ((graph_Order.f k a0 l1).bind fun bt196 => (if t195 = true then (majordomolaw08_GraphGoes.j0 k a0 l1 t195 bt196.1 (bt196.2.2 != 0)) else (majordomolaw08_GraphGoes.j0 k a0 l1 t195 bt196.1 true)))) = some r := h
  clear h
  replace H := Option.bind_eq_some_iff.mp H
  obtain ⟨t195, A30, H⟩ := H
  replace H : ((graph_Order.f k a0 l1).bind fun bt196 => (if t195 = true then (majordomolaw08_GraphGoes.j0 k a0 l1 t195 bt196.1 (bt196.2.2 != 0)) else (majordomolaw08_GraphGoes.j0 k a0 l1 t195 bt196.1 true))) = some r := H
  have A3 := Aside0.mk A30
  clear A30
  replace H := Option.bind_eq_some_iff.mp H
  obtain ⟨⟨t196, t197, t198⟩, A40, H⟩ := H
  replace H : (if t195 = true then (majordomolaw08_GraphGoes.j0 k a0 l1 t195 t196 (t198 != 0)) else (majordomolaw08_GraphGoes.j0 k a0 l1 t195 t196 true)) = some r := H
  have A4 := Aside0.mk A40
  clear A40
  have HC5 := Aside0.mk H
  clear H
  go_enter Try.func4, Try.ntmps4
  go_upto_region 3 with (first | (go_at_call 8; (with_reducible refine (majordomolaw08_shown.calls k  t195 _ A3.out).mono ?_); rintro e w6 ⟨rfl, hb⟩; have n0_ := Aside0.mk (below_step (by repeat (first | (with_reducible first | exact HB.out | apply below_alloc | apply pw_below_drewN | apply below_drew1) | exact HB.out)) hb); clear HB; have HB := n0_; clear n0_; (try clear hb); (try clear hb2); (try clear hk); (try clear hi)) | (go_at_call 9; (with_reducible refine (graph_Order.calls k a0 _ _ l1 t196 t197 t198 _ ?side1 ?side2 A4.out).mono ?_); (case side1 => repeat (first | exact (Kd.C_below HR1.out HB.out) | (with_reducible refine Kd.C_alloc ?_ _) | (with_reducible refine Kd.C_drewN ?_ _) | (with_reducible refine Kd.C_drew ?_))); (case side2 => exact HC1.out); rintro e w7 ⟨v199, v201, rfl, ho0, ho1, hb⟩; have n0_ := Aside0.mk (Kd.R_lower ho0 (below_size (by repeat (first | (with_reducible first | exact HB.out | apply below_alloc | apply pw_below_drewN | apply below_drew1) | exact HB.out)))); have n1_ := Aside0.mk (Kd.Q_lower ho1 (below_size (by repeat (first | (with_reducible first | exact HB.out | apply below_alloc | apply pw_below_drewN | apply below_drew1) | exact HB.out)))); have n2_ := Aside0.mk (below_step (by repeat (first | (with_reducible first | exact HB.out | apply below_alloc | apply pw_below_drewN | apply below_drew1) | exact HB.out)) hb); clear HB; have HO200 := n0_; have HO202 := n1_; have HB := n2_; clear n0_ n1_ n2_; (try clear hb); (try clear hb2); (try clear hk); (try clear hi); (try clear ho0); (try clear ho1)))
  repeat (go_quiet (first | (go_at_call 8; (with_reducible refine (majordomolaw08_shown.calls k  t195 _ A3.out).mono ?_); rintro e w6 ⟨rfl, hb⟩; have n0_ := Aside0.mk (below_step (by repeat (first | (with_reducible first | exact HB.out | apply below_alloc | apply pw_below_drewN | apply below_drew1) | exact HB.out)) hb); clear HB; have HB := n0_; clear n0_; (try clear hb); (try clear hb2); (try clear hk); (try clear hi)) | (go_at_call 9; (with_reducible refine (graph_Order.calls k a0 _ _ l1 t196 t197 t198 _ ?side1 ?side2 A4.out).mono ?_); (case side1 => repeat (first | exact (Kd.C_below HR1.out HB.out) | (with_reducible refine Kd.C_alloc ?_ _) | (with_reducible refine Kd.C_drewN ?_ _) | (with_reducible refine Kd.C_drew ?_))); (case side2 => exact HC1.out); rintro e w7 ⟨v199, v201, rfl, ho0, ho1, hb⟩; have n0_ := Aside0.mk (Kd.R_lower ho0 (below_size (by repeat (first | (with_reducible first | exact HB.out | apply below_alloc | apply pw_below_drewN | apply below_drew1) | exact HB.out)))); have n1_ := Aside0.mk (Kd.Q_lower ho1 (below_size (by repeat (first | (with_reducible first | exact HB.out | apply below_alloc | apply pw_below_drewN | apply below_drew1) | exact HB.out)))); have n2_ := Aside0.mk (below_step (by repeat (first | (with_reducible first | exact HB.out | apply below_alloc | apply pw_below_drewN | apply below_drew1) | exact HB.out)) hb); clear HB; have HO200 := n0_; have HO202 := n1_; have HB := n2_; clear n0_ n1_ n2_; (try clear hb); (try clear hb2); (try clear hk); (try clear hi); (try clear ho0); (try clear ho1))); go_upto_region 3 with (first | (go_at_call 8; (with_reducible refine (majordomolaw08_shown.calls k  t195 _ A3.out).mono ?_); rintro e w6 ⟨rfl, hb⟩; have n0_ := Aside0.mk (below_step (by repeat (first | (with_reducible first | exact HB.out | apply below_alloc | apply pw_below_drewN | apply below_drew1) | exact HB.out)) hb); clear HB; have HB := n0_; clear n0_; (try clear hb); (try clear hb2); (try clear hk); (try clear hi)) | (go_at_call 9; (with_reducible refine (graph_Order.calls k a0 _ _ l1 t196 t197 t198 _ ?side1 ?side2 A4.out).mono ?_); (case side1 => repeat (first | exact (Kd.C_below HR1.out HB.out) | (with_reducible refine Kd.C_alloc ?_ _) | (with_reducible refine Kd.C_drewN ?_ _) | (with_reducible refine Kd.C_drew ?_))); (case side2 => exact HC1.out); rintro e w7 ⟨v199, v201, rfl, ho0, ho1, hb⟩; have n0_ := Aside0.mk (Kd.R_lower ho0 (below_size (by repeat (first | (with_reducible first | exact HB.out | apply below_alloc | apply pw_below_drewN | apply below_drew1) | exact HB.out)))); have n1_ := Aside0.mk (Kd.Q_lower ho1 (below_size (by repeat (first | (with_reducible first | exact HB.out | apply below_alloc | apply pw_below_drewN | apply below_drew1) | exact HB.out)))); have n2_ := Aside0.mk (below_step (by repeat (first | (with_reducible first | exact HB.out | apply below_alloc | apply pw_below_drewN | apply below_drew1) | exact HB.out)) hb); clear HB; have HO200 := n0_; have HO202 := n1_; have HB := n2_; clear n0_ n1_ n2_; (try clear hb); (try clear hb2); (try clear hk); (try clear hi); (try clear ho0); (try clear ho1))))
  (try simp only [Act.put, List.setIfInBounds_toArray, List.set_cons_zero, List.set_cons_succ])
  go_cut [26] (fun v26 wc => ∃ (kq : Nat) (x26_4 : Bool), v26 = .bool x26_4 ∧ Aside0 (majordomolaw08_GraphGoes.j0 kq a0 l1 t195 t196 x26_4 = some r) ∧ Aside0 (kq ≤ k) ∧ Aside0 (Kd.R (Kd.int .i64) 3 wc w.heap.size (fun _ => True) v199 t196) ∧ Aside0 (Below w.heap.size w wc))
  case first =>
    have H := HC5.out
    clear HC5
    by_cases c8 : t195 = true
    · subst c8
      have H1 : (majordomolaw08_GraphGoes.j0 k a0 l1 true t196 (t198 != 0)) = some r := by rw [if_pos rfl] at H; exact H
      clear H
      have H := H1
      clear H1
      have H' := Aside0.mk H
      clear H
      go_wp2
      repeat (go_quiet (fail); try go_wp2)
      go_meet
      case rel => exact ⟨_, ((t198 != 0)), (by first | rfl | (simp; done) | (simp [*]; done)), H', ⟨by first | omega | exact Nat.le_refl _⟩, ⟨by (with_reducible repeat (first | apply Kd.R_alloc | apply Kd.R_drewN | apply Kd.R_drew)); exact Kd.R_mono HO200.out (fun _ hk => trivial)⟩, ⟨by repeat (first | (with_reducible first | exact HB.out | apply below_alloc | apply pw_below_drewN | apply below_drew1) | exact HB.out)⟩⟩
    · replace c8 := Bool.eq_false_iff.mpr c8
      subst c8
      have H1 : (majordomolaw08_GraphGoes.j0 k a0 l1 false t196 true) = some r := by rw [if_neg (show ¬ (false = true) by decide)] at H; exact H
      clear H
      have H := H1
      clear H1
      have H' := Aside0.mk H
      clear H
      go_wp2
      repeat (go_quiet (fail); try go_wp2)
      go_meet
      case rel => exact ⟨_, (true), (by first | rfl | (simp; done) | (simp [*]; done)), H', ⟨by first | omega | exact Nat.le_refl _⟩, ⟨by (with_reducible repeat (first | apply Kd.R_alloc | apply Kd.R_drewN | apply Kd.R_drew)); exact Kd.R_mono HO200.out (fun _ hk => trivial)⟩, ⟨by repeat (first | (with_reducible first | exact HB.out | apply below_alloc | apply pw_below_drewN | apply below_drew1) | exact HB.out)⟩⟩
  case rest =>
    clear HC5
    try clear c1
    try clear p2
    try clear c4
    try clear c8
    obtain ⟨kq, x26_4, rfl, HA, HJ4, HO_6, HB⟩ := hcut
    cases kq with
    | zero => exact absurd HA.out (by simp [majordomolaw08_GraphGoes.j0])
    | succ kj4 =>
      have H := HA.out
      clear HA
      simp only [majordomolaw08_GraphGoes.j0] at H
      by_cases c9 : x26_4 = true
      · subst c9
        have H1 : (if t195 = true then (some ((t196.length : Int) == 0)) else (some false)) = some r := by rw [if_pos rfl] at H; exact H
        clear H
        have H := H1
        clear H1
        by_cases c10 : t195 = true
        · subst c10
          have H1 : (some ((t196.length : Int) == 0)) = some r := by rw [if_pos rfl] at H; exact H
          clear H
          have H := H1
          clear H1
          obtain rfl := Option.some.inj H
          obtain ⟨Ao11, co11, eo11⟩ := Kd.R_slice HO_6.out
          subst eo11
          go_wp2
          repeat (go_quiet (fail); try go_wp2)
          go_ret
          exact ⟨by first | rfl | (simp [errW_none, errW_some] <;> rfl) | (simp [*, errW_none, errW_some] <;> rfl), by repeat (first | (with_reducible first | exact HB.out | apply below_alloc | apply pw_below_drewN | apply below_drew1) | exact HB.out)⟩
        · replace c10 := Bool.eq_false_iff.mpr c10
          subst c10
          have H1 : (some false) = some r := by rw [if_neg (show ¬ (false = true) by decide)] at H; exact H
          clear H
          have H := H1
          clear H1
          obtain rfl := Option.some.inj H
          go_wp2
          repeat (go_quiet (fail); try go_wp2)
          go_ret
          exact ⟨by first | rfl | (simp [errW_none, errW_some] <;> rfl) | (simp [*, errW_none, errW_some] <;> rfl), by repeat (first | (with_reducible first | exact HB.out | apply below_alloc | apply pw_below_drewN | apply below_drew1) | exact HB.out)⟩
      · replace c9 := Bool.eq_false_iff.mpr c9
        subst c9
        have H1 : (if 0 ≤ a0 then (if (a0 : Int).toNat ≤ 35184372088832 then (majordomolaw08_GraphGoes.l0 kj4 a0 l1 t196 (List.replicate (a0 : Int).toNat 0) 0) else (none)) else (none)) = some r := by rw [if_neg (show ¬ (false = true) by decide)] at H; exact H
        clear H
        have H := H1
        clear H1
        by_cases c12 : 0 ≤ a0
        · rw [if_pos c12] at H
          have c12b0 := eq_true c12
          have c12b1 : decide (0 ≤ a0) = true := decide_eq_true c12
          clear c12
          by_cases c13 : (a0 : Int).toNat ≤ 35184372088832
          · rw [if_pos c13] at H
            have c13b0 := eq_true c13
            have c13b1 : decide ((a0 : Int).toNat ≤ 35184372088832) = true := decide_eq_true c13
            clear c13
            obtain ⟨y203, hy203⟩ : ∃ y_ : List Int, y_ = (List.replicate (a0 : Int).toNat 0) := ⟨_, rfl⟩
            replace H : (majordomolaw08_GraphGoes.l0 kj4 a0 l1 t196 y203 0) = some r := by first | (rw [hy203]; with_reducible exact H) | (have H2_ := (Option.bind_some _ _).symm.trans H; rw [hy203]; with_reducible exact H2_) | (have H2_ := (Option.bind_some _ _).symm.trans H; with_reducible exact H2_) | with_reducible exact H | (rw [hy203]; exact H) | exact H
            have Ny203 := Aside0.mk hy203
            clear hy203
            have H' := Aside0.mk H
            clear H
            go_wp2_with (first | ((with_reducible refine gate_dst (N := 34) rfl ?_); (try (refine gate_guard (by rfl) ?_; dsimp only)); refine Kd.R_make (Kd.int .i64) _ 3 rfl (N := 34) rfl 24 _ _ rfl a0 rfl rfl Try.underlying24 (.int .i64 0) 8 info3 rfl (by decide) (by omega) 0 (ok := fun _ => True) (okp := fun _ => True) rfl (fun _ hk => hk) trivial (of_decide_eq_true (by first | (with_reducible assumption) | assumption)) (Nat.le_trans (Nat.mul_le_mul_right _ (of_decide_eq_true (by first | (with_reducible assumption) | assumption) : a0.toNat ≤ 35184372088832)) (by omega)) (Below.refl _ _) (Nat.le_refl _) ?_; intro v204 w14 ho15 hb hg_ hnew_; clear hg_ hnew_; (first | rw [← Ny203.out] at ho15 | (simp only [Int.reduceToNat] at ho15; rw [← Ny203.out] at ho15)); have n0_ := Aside0.mk (Kd.R_elder' (by (with_reducible repeat (first | apply Kd.R_alloc | apply Kd.R_drewN | apply Kd.R_drew)); exact HO_6.out) (Kd.R_base ho15) hb); have n1_ := Aside0.mk (Kd.R_lower (Kd.R_new' ho15 (Kd.R_lt (by (with_reducible repeat (first | apply Kd.R_alloc | apply Kd.R_drewN | apply Kd.R_drew)); exact HO_6.out))) (below_size (by repeat (first | (with_reducible first | exact HB.out | apply below_alloc | apply pw_below_drewN | apply below_drew1) | exact HB.out)))); have n2_ := Aside0.mk (below_step (by repeat (first | (with_reducible first | exact HB.out | apply below_alloc | apply pw_below_drewN | apply below_drew1) | exact HB.out)) hb); clear HO_6; clear HB; have HO_6 := n0_; have HO205 := n1_; have HB := n2_; clear n0_ n1_ n2_; clear hb ho15))
            repeat (go_quiet (first | ((with_reducible refine gate_dst (N := 34) rfl ?_); (try (refine gate_guard (by rfl) ?_; dsimp only)); refine Kd.R_make (Kd.int .i64) _ 3 rfl (N := 34) rfl 24 _ _ rfl a0 rfl rfl Try.underlying24 (.int .i64 0) 8 info3 rfl (by decide) (by omega) 0 (ok := fun _ => True) (okp := fun _ => True) rfl (fun _ hk => hk) trivial (of_decide_eq_true (by first | (with_reducible assumption) | assumption)) (Nat.le_trans (Nat.mul_le_mul_right _ (of_decide_eq_true (by first | (with_reducible assumption) | assumption) : a0.toNat ≤ 35184372088832)) (by omega)) (Below.refl _ _) (Nat.le_refl _) ?_; intro v204 w14 ho15 hb hg_ hnew_; clear hg_ hnew_; (first | rw [← Ny203.out] at ho15 | (simp only [Int.reduceToNat] at ho15; rw [← Ny203.out] at ho15)); have n0_ := Aside0.mk (Kd.R_elder' (by (with_reducible repeat (first | apply Kd.R_alloc | apply Kd.R_drewN | apply Kd.R_drew)); exact HO_6.out) (Kd.R_base ho15) hb); have n1_ := Aside0.mk (Kd.R_lower (Kd.R_new' ho15 (Kd.R_lt (by (with_reducible repeat (first | apply Kd.R_alloc | apply Kd.R_drewN | apply Kd.R_drew)); exact HO_6.out))) (below_size (by repeat (first | (with_reducible first | exact HB.out | apply below_alloc | apply pw_below_drewN | apply below_drew1) | exact HB.out)))); have n2_ := Aside0.mk (below_step (by repeat (first | (with_reducible first | exact HB.out | apply below_alloc | apply pw_below_drewN | apply below_drew1) | exact HB.out)) hb); clear HO_6; clear HB; have HO_6 := n0_; have HO205 := n1_; have HB := n2_; clear n0_ n1_ n2_; clear hb ho15)); try go_wp2_with (first | ((with_reducible refine gate_dst (N := 34) rfl ?_); (try (refine gate_guard (by rfl) ?_; dsimp only)); refine Kd.R_make (Kd.int .i64) _ 3 rfl (N := 34) rfl 24 _ _ rfl a0 rfl rfl Try.underlying24 (.int .i64 0) 8 info3 rfl (by decide) (by omega) 0 (ok := fun _ => True) (okp := fun _ => True) rfl (fun _ hk => hk) trivial (of_decide_eq_true (by first | (with_reducible assumption) | assumption)) (Nat.le_trans (Nat.mul_le_mul_right _ (of_decide_eq_true (by first | (with_reducible assumption) | assumption) : a0.toNat ≤ 35184372088832)) (by omega)) (Below.refl _ _) (Nat.le_refl _) ?_; intro v204 w14 ho15 hb hg_ hnew_; clear hg_ hnew_; (first | rw [← Ny203.out] at ho15 | (simp only [Int.reduceToNat] at ho15; rw [← Ny203.out] at ho15)); have n0_ := Aside0.mk (Kd.R_elder' (by (with_reducible repeat (first | apply Kd.R_alloc | apply Kd.R_drewN | apply Kd.R_drew)); exact HO_6.out) (Kd.R_base ho15) hb); have n1_ := Aside0.mk (Kd.R_lower (Kd.R_new' ho15 (Kd.R_lt (by (with_reducible repeat (first | apply Kd.R_alloc | apply Kd.R_drewN | apply Kd.R_drew)); exact HO_6.out))) (below_size (by repeat (first | (with_reducible first | exact HB.out | apply below_alloc | apply pw_below_drewN | apply below_drew1) | exact HB.out)))); have n2_ := Aside0.mk (below_step (by repeat (first | (with_reducible first | exact HB.out | apply below_alloc | apply pw_below_drewN | apply below_drew1) | exact HB.out)) hb); clear HO_6; clear HB; have HO_6 := n0_; have HO205 := n1_; have HB := n2_; clear n0_ n1_ n2_; clear hb ho15)))
            go_loopg [10] kj4 (fun kq v10 w' => ∃ (x9_2 : List Int) (x10_2 : Int), v10 = .int .i64 x10_2 ∧ Aside0 (majordomolaw08_GraphGoes.l0 kq a0 l1 t196 x9_2 x10_2 = some r) ∧ Aside0 (kq ≤ kj4) ∧ Aside0 (Kd.R (Kd.int .i64) 3 w' w.heap.size (fun k_ => some k_ ≠ (v204 : Value).ownBlock) v199 t196) ∧ Aside0 (Kd.R (Kd.int .i64) 3 w' w.heap.size (fun k_ => some k_ ≠ (v199 : Value).ownBlock) v204 x9_2) ∧ Aside0 (Below w.heap.size w w'))
            case atStart => exact ⟨(y203), (0), (by first | rfl | (simp; done) | (simp [*]; done)), H', ⟨Nat.le_refl _⟩, ⟨by (with_reducible repeat (first | apply Kd.R_alloc | apply Kd.R_drewN | apply Kd.R_drew)); exact Kd.R_mono HO_6.out (fun _ hk => hk.2)⟩, ⟨by (with_reducible repeat (first | apply Kd.R_alloc | apply Kd.R_drewN | apply Kd.R_drew)); exact Kd.R_mono HO205.out (fun _ hk => hk.2)⟩, ⟨by repeat (first | (with_reducible first | exact HB.out | apply below_alloc | apply pw_below_drewN | apply below_drew1) | exact HB.out)⟩⟩
            case round =>
              clear H'
              try clear c1
              try clear p2
              try clear c4
              try clear c8
              try clear c9
              try clear c10
              try clear c12
              try clear c12b0
              try clear c12b1
              try clear c13
              try clear c13b0
              try clear c13b1
              try clear p2
              obtain ⟨x9_2, x10_2, rfl, HA, HK2, HO_6, HO_9, HB⟩ := hrel
              cases gk with
              | zero => exact absurd HA.out (by simp [majordomolaw08_GraphGoes.l0])
              | succ k2 =>
                have H := HA.out
                clear HA
                simp only [majordomolaw08_GraphGoes.l0] at H
                by_cases c16 : x10_2 < a0
                · rw [if_pos c16] at H
                  have c16b0 : decide (x10_2 < a0) = true := decide_eq_true c16
                  clear c16
                  by_cases c17 : 0 ≤ x10_2
                  · rw [if_pos c17] at H
                    have c17b0 : decide (0 ≤ x10_2) = true := decide_eq_true c17
                    clear c17
                    by_cases c18 : x10_2 < (x9_2.length : Int)
                    · rw [if_pos c18] at H
                      have c18b0 : decide (x10_2 < (x9_2.length : Int)) = true := decide_eq_true c18
                      clear c18
                      obtain ⟨y206, hy206⟩ : ∃ y_ : List Int, y_ = (x9_2.set (x10_2 : Int).toNat (-1)) := ⟨_, rfl⟩
                      replace H : (majordomolaw08_GraphGoes.l0 k2 a0 l1 t196 y206 (wrap64 (x10_2 + 1))) = some r := by first | (rw [hy206]; with_reducible exact H) | (have H2_ := (Option.bind_some _ _).symm.trans H; rw [hy206]; with_reducible exact H2_) | (have H2_ := (Option.bind_some _ _).symm.trans H; with_reducible exact H2_) | with_reducible exact H | (rw [hy206]; exact H) | exact H
                      have Ny206 := Aside0.mk hy206
                      clear hy206
                      have H' := Aside0.mk H
                      clear H
                      have p19 : 0 ≤ (x10_2 : Int) := of_decide_eq_true (by first | (with_reducible assumption) | assumption)
                      have q19 : (x10_2 : Int) < ((x9_2.length : Int) : Int) := of_decide_eq_true (by first | (with_reducible assumption) | assumption)
                      obtain ⟨go19, co19, eo19, gb19, gl19, cl19, HG19⟩ := Kd.R_form HO_9.out (by omega)
                      (first | cases eo19 | (injection eo19 with ea_ en_ ec_; (first | subst ea_ | (injection ea_ with ea_; subst ea_)); subst ec_; clear en_))
                      have GB19 := Aside0.mk gb19
                      have GG19 := Aside0.mk HG19
                      clear gb19 gl19 HG19
                      obtain ⟨hx19_0, hf19_0⟩ := Kd.R_celln 0 HO_9.out (x10_2 : Int) p19 q19
                      replace p19 := eq_true p19
                      replace q19 := eq_true q19
                      have HP20 := Kd.R_putg HO_9.out (x10_2 : Int) (-1)
                      go_wp2_with (first | ((with_reducible refine gate_store (t := 3) (p := 42) rfl ?_); (try (rw [drewN_self wr]; generalize hq_ : World.drewN wr _ = wr; have n0_ := Aside0.mk (Kd.R_at hq_ HO_6.out); have n1_ := Aside0.mk (Kd.R_at hq_ HO_9.out); have n2_ := Aside0.mk (below_at hq_ HB.out); clear hq_ HO_6 HO_9 HB; have HO_6 := n0_; have HO_9 := n1_; have HB := n2_; clear n0_ n1_ n2_; (try (have HP20 := Kd.R_putg HO_9.out (x10_2 : Int) (-1))))); refine store_event (t := 3) (p := 42) (v := ?vo_w21) (w1 := (wr.setCell ⟨go19, (x10_2 : Int).toNat, none⟩ (.int .i64 (-1)))) ?hg ?ho ?hn ?hr ?_; (case ho => rfl); (case hg => rfl); (case hn => rfl); (case hr => first | (go_simp; done) | (go_simp; rfl)); intro w21 hw; have hg : wr.grownBy w21 (some go19) := (by rw [hw]; exact HP20.2); have hp_ : Kd.R (Kd.int .i64) 3 w21 w.heap.size (fun k_ => some k_ ≠ (v199 : Value).ownBlock) (.slice (some ⟨go19, 0, none⟩) x9_2.length co19) y206 := (by rw [hw, Ny206.out]; exact HP20.1); clear HP20; have n0_ := Aside0.mk (Kd.R_after (v := (.slice (some ⟨go19, 0, none⟩) x9_2.length co19)) (v1 := (.slice (some ⟨go19, 0, none⟩) x9_2.length co19)) (ok := (fun _ => True)) (by (with_reducible repeat (first | apply Kd.R_alloc | apply Kd.R_drewN | apply Kd.R_drew)); exact Kd.R_mono HO_6.out (fun _ hk => ⟨trivial, hk⟩)) hg (.inl rfl)); have n1_ := Aside0.mk (hp_); have n2_ := Aside0.mk ((by rw [hw]; exact below_set (HB.out) GB19.out : Below w.heap.size w w21)); clear HO_6; clear HO_9; clear HB; have HO_6 := n0_; have HO_9 := n1_; have HB := n2_; clear n0_ n1_ n2_; clear hg hw hp_))
                      repeat (go_quiet (first | ((with_reducible refine gate_store (t := 3) (p := 42) rfl ?_); (try (rw [drewN_self wr]; generalize hq_ : World.drewN wr _ = wr; have n0_ := Aside0.mk (Kd.R_at hq_ HO_6.out); have n1_ := Aside0.mk (Kd.R_at hq_ HO_9.out); have n2_ := Aside0.mk (below_at hq_ HB.out); clear hq_ HO_6 HO_9 HB; have HO_6 := n0_; have HO_9 := n1_; have HB := n2_; clear n0_ n1_ n2_; (try (have HP20 := Kd.R_putg HO_9.out (x10_2 : Int) (-1))))); refine store_event (t := 3) (p := 42) (v := ?vo_w21) (w1 := (wr.setCell ⟨go19, (x10_2 : Int).toNat, none⟩ (.int .i64 (-1)))) ?hg ?ho ?hn ?hr ?_; (case ho => rfl); (case hg => rfl); (case hn => rfl); (case hr => first | (go_simp; done) | (go_simp; rfl)); intro w21 hw; have hg : wr.grownBy w21 (some go19) := (by rw [hw]; exact HP20.2); have hp_ : Kd.R (Kd.int .i64) 3 w21 w.heap.size (fun k_ => some k_ ≠ (v199 : Value).ownBlock) (.slice (some ⟨go19, 0, none⟩) x9_2.length co19) y206 := (by rw [hw, Ny206.out]; exact HP20.1); clear HP20; have n0_ := Aside0.mk (Kd.R_after (v := (.slice (some ⟨go19, 0, none⟩) x9_2.length co19)) (v1 := (.slice (some ⟨go19, 0, none⟩) x9_2.length co19)) (ok := (fun _ => True)) (by (with_reducible repeat (first | apply Kd.R_alloc | apply Kd.R_drewN | apply Kd.R_drew)); exact Kd.R_mono HO_6.out (fun _ hk => ⟨trivial, hk⟩)) hg (.inl rfl)); have n1_ := Aside0.mk (hp_); have n2_ := Aside0.mk ((by rw [hw]; exact below_set (HB.out) GB19.out : Below w.heap.size w w21)); clear HO_6; clear HO_9; clear HB; have HO_6 := n0_; have HO_9 := n1_; have HB := n2_; clear n0_ n1_ n2_; clear hg hw hp_)); try go_wp2_with (first | ((with_reducible refine gate_store (t := 3) (p := 42) rfl ?_); (try (rw [drewN_self wr]; generalize hq_ : World.drewN wr _ = wr; have n0_ := Aside0.mk (Kd.R_at hq_ HO_6.out); have n1_ := Aside0.mk (Kd.R_at hq_ HO_9.out); have n2_ := Aside0.mk (below_at hq_ HB.out); clear hq_ HO_6 HO_9 HB; have HO_6 := n0_; have HO_9 := n1_; have HB := n2_; clear n0_ n1_ n2_; (try (have HP20 := Kd.R_putg HO_9.out (x10_2 : Int) (-1))))); refine store_event (t := 3) (p := 42) (v := ?vo_w21) (w1 := (wr.setCell ⟨go19, (x10_2 : Int).toNat, none⟩ (.int .i64 (-1)))) ?hg ?ho ?hn ?hr ?_; (case ho => rfl); (case hg => rfl); (case hn => rfl); (case hr => first | (go_simp; done) | (go_simp; rfl)); intro w21 hw; have hg : wr.grownBy w21 (some go19) := (by rw [hw]; exact HP20.2); have hp_ : Kd.R (Kd.int .i64) 3 w21 w.heap.size (fun k_ => some k_ ≠ (v199 : Value).ownBlock) (.slice (some ⟨go19, 0, none⟩) x9_2.length co19) y206 := (by rw [hw, Ny206.out]; exact HP20.1); clear HP20; have n0_ := Aside0.mk (Kd.R_after (v := (.slice (some ⟨go19, 0, none⟩) x9_2.length co19)) (v1 := (.slice (some ⟨go19, 0, none⟩) x9_2.length co19)) (ok := (fun _ => True)) (by (with_reducible repeat (first | apply Kd.R_alloc | apply Kd.R_drewN | apply Kd.R_drew)); exact Kd.R_mono HO_6.out (fun _ hk => ⟨trivial, hk⟩)) hg (.inl rfl)); have n1_ := Aside0.mk (hp_); have n2_ := Aside0.mk ((by rw [hw]; exact below_set (HB.out) GB19.out : Below w.heap.size w w21)); clear HO_6; clear HO_9; clear HB; have HO_6 := n0_; have HO_9 := n1_; have HB := n2_; clear n0_ n1_ n2_; clear hg hw hp_)))
                      go_roundg k2
                      case measure => have := HJ4.out; have := HK2.out; omega
                      case rel => exact ⟨(y206), (wrap64 (x10_2 + 1)), (by first | rfl | (simp; done) | (simp [*]; done)), H', ⟨by have := HJ4.out; have := HK2.out; omega⟩, ⟨by (with_reducible repeat (first | apply Kd.R_alloc | apply Kd.R_drewN | apply Kd.R_drew)); exact Kd.R_mono HO_6.out (fun _ hk => hk.2)⟩, ⟨by (with_reducible repeat (first | apply Kd.R_alloc | apply Kd.R_drewN | apply Kd.R_drew)); exact HO_9.out⟩, ⟨by repeat (first | (with_reducible first | exact HB.out | apply below_alloc | apply pw_below_drewN | apply below_drew1) | exact HB.out)⟩⟩
                    · rw [if_neg c18] at H
                      exact absurd H (by simp)
                  · rw [if_neg c17] at H
                    exact absurd H (by simp)
                · rw [if_neg c16] at H
                  have c16b0 : decide (x10_2 < a0) = false := decide_eq_false c16
                  clear c16
                  have H' := Aside0.mk H
                  clear H
                  go_wp2
                  repeat (go_quiet (fail); try go_wp2)
                  go_loopg [11] k2 (fun kq v11 w' => ∃ (x9_3 : List Int) (x11_3 : Int), v11 = .int .i64 x11_3 ∧ Aside0 (majordomolaw08_GraphGoes.l1 kq a0 l1 t196 x9_3 x11_3 = some r) ∧ Aside0 (kq ≤ k2) ∧ Aside0 (Kd.R (Kd.int .i64) 3 w' w.heap.size (fun k_ => some k_ ≠ (v204 : Value).ownBlock) v199 t196) ∧ Aside0 (Kd.R (Kd.int .i64) 3 w' w.heap.size (fun k_ => some k_ ≠ (v199 : Value).ownBlock) v204 x9_3) ∧ Aside0 (Below w.heap.size w w'))
                  case atStart => exact ⟨(x9_2), (0), (by first | rfl | (simp; done) | (simp [*]; done)), H', ⟨Nat.le_refl _⟩, ⟨by (with_reducible repeat (first | apply Kd.R_alloc | apply Kd.R_drewN | apply Kd.R_drew)); exact HO_6.out⟩, ⟨by (with_reducible repeat (first | apply Kd.R_alloc | apply Kd.R_drewN | apply Kd.R_drew)); exact HO_9.out⟩, ⟨by repeat (first | (with_reducible first | exact HB.out | apply below_alloc | apply pw_below_drewN | apply below_drew1) | exact HB.out)⟩⟩
                  case round =>
                    clear H'
                    try clear c1
                    try clear p1
                    try clear q1
                    try clear hx1
                    try clear p2
                    try clear c4
                    try clear p6
                    try clear c8
                    try clear c9
                    try clear c10
                    try clear c12
                    try clear c12b0
                    try clear c12b1
                    try clear c13
                    try clear c13b0
                    try clear c13b1
                    try clear c16
                    try clear c16b0
                    try clear c17
                    try clear c17b0
                    try clear c18
                    try clear c18b0
                    try clear p19
                    try clear q19
                    try clear hx19
                    try clear hf19
                    try clear hx19_0
                    try clear p19
                    try clear p2
                    try clear q19
                    obtain ⟨x9_3, x11_3, rfl, HA, HK3, HO_6, HO_9, HB⟩ := hrel
                    cases gk with
                    | zero => exact absurd HA.out (by simp [majordomolaw08_GraphGoes.l1])
                    | succ k3 =>
                      have H := HA.out
                      clear HA
                      simp only [majordomolaw08_GraphGoes.l1] at H
                      by_cases c22 : x11_3 < (t196.length : Int)
                      · rw [if_pos c22] at H
                        have c22b0 : decide (x11_3 < (t196.length : Int)) = true := decide_eq_true c22
                        clear c22
                        by_cases c23 : 0 ≤ x11_3
                        · rw [if_pos c23] at H
                          have c23b0 : decide (0 ≤ x11_3) = true := decide_eq_true c23
                          clear c23
                          by_cases c24 : (rd t196 x11_3) < 0
                          · rw [if_pos c24] at H
                            have c24b0 : decide ((rd t196 x11_3) < 0) = true := decide_eq_true c24
                            clear c24
                            obtain rfl := Option.some.inj H
                            obtain ⟨Ao25, co25, eo25⟩ := Kd.R_slice HO_6.out
                            subst eo25
                            have p207 : 0 ≤ (x11_3 : Int) := of_decide_eq_true (by first | (with_reducible assumption) | assumption)
                            have q207 : x11_3 < (t196.length : Int) := of_decide_eq_true (by first | (with_reducible assumption) | assumption)
                            obtain ⟨ad207, e207, hx207_0⟩ := Kd.at_int (Kd.R_reads' HO_6.out).2.2 x11_3 p207 q207
                            cases e207
                            replace p207 := eq_true p207
                            replace q207 := eq_true q207
                            go_wp2
                            repeat (go_quiet (fail); try go_wp2)
                            go_ret
                            exact ⟨by first | rfl | (simp [errW_none, errW_some] <;> rfl) | (simp [*, errW_none, errW_some] <;> rfl), by repeat (first | (with_reducible first | exact HB.out | apply below_alloc | apply pw_below_drewN | apply below_drew1) | exact HB.out)⟩
                          · rw [if_neg c24] at H
                            have c24b0 : decide ((rd t196 x11_3) < 0) = false := decide_eq_false c24
                            clear c24
                            by_cases c26 : (rd t196 x11_3) ≥ a0
                            · rw [if_pos c26] at H
                              have c26b0 : decide (a0 ≤ (rd t196 x11_3)) = true := decide_eq_true c26
                              clear c26
                              obtain rfl := Option.some.inj H
                              obtain ⟨Ao27, co27, eo27⟩ := Kd.R_slice HO_6.out
                              subst eo27
                              have p207 : 0 ≤ (x11_3 : Int) := of_decide_eq_true (by first | (with_reducible assumption) | assumption)
                              have q207 : x11_3 < (t196.length : Int) := of_decide_eq_true (by first | (with_reducible assumption) | assumption)
                              obtain ⟨ad207, e207, hx207_0⟩ := Kd.at_int (Kd.R_reads' HO_6.out).2.2 x11_3 p207 q207
                              cases e207
                              replace p207 := eq_true p207
                              replace q207 := eq_true q207
                              have p208 : 0 ≤ (x11_3 : Int) := of_decide_eq_true (by first | (with_reducible assumption) | assumption)
                              have q208 : x11_3 < (t196.length : Int) := of_decide_eq_true (by first | (with_reducible assumption) | assumption)
                              obtain ⟨ad208, e208, hx208_0⟩ := Kd.at_int (Kd.R_reads' HO_6.out).2.2 x11_3 p208 q208
                              obtain rfl : ad207 = ad208 := (by injection e208)
                              replace p208 := eq_true p208
                              replace q208 := eq_true q208
                              go_wp2
                              repeat (go_quiet (fail); try go_wp2)
                              go_ret
                              exact ⟨by first | rfl | (simp [errW_none, errW_some] <;> rfl) | (simp [*, errW_none, errW_some] <;> rfl), by repeat (first | (with_reducible first | exact HB.out | apply below_alloc | apply pw_below_drewN | apply below_drew1) | exact HB.out)⟩
                            · rw [if_neg c26] at H
                              have c26b0 : decide (a0 ≤ (rd t196 x11_3)) = false := decide_eq_false c26
                              clear c26
                              by_cases c28 : 0 ≤ (rd t196 x11_3)
                              · rw [if_pos c28] at H
                                have c28b0 : decide (0 ≤ (rd t196 x11_3)) = true := decide_eq_true c28
                                clear c28
                                by_cases c29 : (rd t196 x11_3) < (x9_3.length : Int)
                                · rw [if_pos c29] at H
                                  have c29b0 : decide ((rd t196 x11_3) < (x9_3.length : Int)) = true := decide_eq_true c29
                                  clear c29
                                  by_cases c30 : (rd x9_3 (rd t196 x11_3)) ≥ 0
                                  · rw [if_pos c30] at H
                                    have c30b0 : decide (0 ≤ (rd x9_3 (rd t196 x11_3))) = true := decide_eq_true c30
                                    clear c30
                                    obtain rfl := Option.some.inj H
                                    obtain ⟨Ao31, co31, eo31⟩ := Kd.R_slice HO_6.out
                                    subst eo31
                                    have p207 : 0 ≤ (x11_3 : Int) := of_decide_eq_true (by first | (with_reducible assumption) | assumption)
                                    have q207 : x11_3 < (t196.length : Int) := of_decide_eq_true (by first | (with_reducible assumption) | assumption)
                                    obtain ⟨ad207, e207, hx207_0⟩ := Kd.at_int (Kd.R_reads' HO_6.out).2.2 x11_3 p207 q207
                                    cases e207
                                    replace p207 := eq_true p207
                                    replace q207 := eq_true q207
                                    have p208 : 0 ≤ (x11_3 : Int) := of_decide_eq_true (by first | (with_reducible assumption) | assumption)
                                    have q208 : x11_3 < (t196.length : Int) := of_decide_eq_true (by first | (with_reducible assumption) | assumption)
                                    obtain ⟨ad208, e208, hx208_0⟩ := Kd.at_int (Kd.R_reads' HO_6.out).2.2 x11_3 p208 q208
                                    obtain rfl : ad207 = ad208 := (by injection e208)
                                    replace p208 := eq_true p208
                                    replace q208 := eq_true q208
                                    have p209 : 0 ≤ (x11_3 : Int) := of_decide_eq_true (by first | (with_reducible assumption) | assumption)
                                    have q209 : x11_3 < (t196.length : Int) := of_decide_eq_true (by first | (with_reducible assumption) | assumption)
                                    obtain ⟨ad209, e209, hx209_0⟩ := Kd.at_int (Kd.R_reads' HO_6.out).2.2 x11_3 p209 q209
                                    obtain rfl : ad207 = ad209 := (by injection e209)
                                    replace p209 := eq_true p209
                                    replace q209 := eq_true q209
                                    obtain ⟨Ao32, co32, eo32⟩ := Kd.R_slice HO_9.out
                                    subst eo32
                                    have p210 : 0 ≤ ((rd t196 x11_3) : Int) := of_decide_eq_true (by first | (with_reducible assumption) | assumption)
                                    have q210 : (rd t196 x11_3) < (x9_3.length : Int) := of_decide_eq_true (by first | (with_reducible assumption) | assumption)
                                    obtain ⟨ad210, e210, hx210_0⟩ := Kd.at_int (Kd.R_reads' HO_9.out).2.2 (rd t196 x11_3) p210 q210
                                    cases e210
                                    replace p210 := eq_true p210
                                    replace q210 := eq_true q210
                                    go_wp2
                                    repeat (go_quiet (fail); try go_wp2)
                                    go_ret
                                    exact ⟨by first | rfl | (simp [errW_none, errW_some] <;> rfl) | (simp [*, errW_none, errW_some] <;> rfl), by repeat (first | (with_reducible first | exact HB.out | apply below_alloc | apply pw_below_drewN | apply below_drew1) | exact HB.out)⟩
                                  · rw [if_neg c30] at H
                                    have c30b0 : decide (0 ≤ (rd x9_3 (rd t196 x11_3))) = false := decide_eq_false c30
                                    clear c30
                                    obtain ⟨y212, hy212⟩ : ∃ y_ : List Int, y_ = (x9_3.set ((rd t196 x11_3) : Int).toNat x11_3) := ⟨_, rfl⟩
                                    replace H : (majordomolaw08_GraphGoes.l1 k3 a0 l1 t196 y212 (wrap64 (x11_3 + 1))) = some r := by first | (rw [hy212]; with_reducible exact H) | (have H2_ := (Option.bind_some _ _).symm.trans H; rw [hy212]; with_reducible exact H2_) | (have H2_ := (Option.bind_some _ _).symm.trans H; with_reducible exact H2_) | with_reducible exact H | (rw [hy212]; exact H) | exact H
                                    have Ny212 := Aside0.mk hy212
                                    clear hy212
                                    have H' := Aside0.mk H
                                    clear H
                                    obtain ⟨Ao34, co34, eo34⟩ := Kd.R_slice HO_6.out
                                    subst eo34
                                    have p207 : 0 ≤ (x11_3 : Int) := of_decide_eq_true (by first | (with_reducible assumption) | assumption)
                                    have q207 : x11_3 < (t196.length : Int) := of_decide_eq_true (by first | (with_reducible assumption) | assumption)
                                    obtain ⟨ad207, e207, hx207_0⟩ := Kd.at_int (Kd.R_reads' HO_6.out).2.2 x11_3 p207 q207
                                    cases e207
                                    replace p207 := eq_true p207
                                    replace q207 := eq_true q207
                                    have p208 : 0 ≤ (x11_3 : Int) := of_decide_eq_true (by first | (with_reducible assumption) | assumption)
                                    have q208 : x11_3 < (t196.length : Int) := of_decide_eq_true (by first | (with_reducible assumption) | assumption)
                                    obtain ⟨ad208, e208, hx208_0⟩ := Kd.at_int (Kd.R_reads' HO_6.out).2.2 x11_3 p208 q208
                                    obtain rfl : ad207 = ad208 := (by injection e208)
                                    replace p208 := eq_true p208
                                    replace q208 := eq_true q208
                                    have p209 : 0 ≤ (x11_3 : Int) := of_decide_eq_true (by first | (with_reducible assumption) | assumption)
                                    have q209 : x11_3 < (t196.length : Int) := of_decide_eq_true (by first | (with_reducible assumption) | assumption)
                                    obtain ⟨ad209, e209, hx209_0⟩ := Kd.at_int (Kd.R_reads' HO_6.out).2.2 x11_3 p209 q209
                                    obtain rfl : ad207 = ad209 := (by injection e209)
                                    replace p209 := eq_true p209
                                    replace q209 := eq_true q209
                                    obtain ⟨Ao35, co35, eo35⟩ := Kd.R_slice HO_9.out
                                    subst eo35
                                    have p210 : 0 ≤ ((rd t196 x11_3) : Int) := of_decide_eq_true (by first | (with_reducible assumption) | assumption)
                                    have q210 : (rd t196 x11_3) < (x9_3.length : Int) := of_decide_eq_true (by first | (with_reducible assumption) | assumption)
                                    obtain ⟨ad210, e210, hx210_0⟩ := Kd.at_int (Kd.R_reads' HO_9.out).2.2 (rd t196 x11_3) p210 q210
                                    cases e210
                                    replace p210 := eq_true p210
                                    replace q210 := eq_true q210
                                    have p211 : 0 ≤ (x11_3 : Int) := of_decide_eq_true (by first | (with_reducible assumption) | assumption)
                                    have q211 : x11_3 < (t196.length : Int) := of_decide_eq_true (by first | (with_reducible assumption) | assumption)
                                    obtain ⟨ad211, e211, hx211_0⟩ := Kd.at_int (Kd.R_reads' HO_6.out).2.2 x11_3 p211 q211
                                    obtain rfl : ad207 = ad211 := (by injection e211)
                                    replace p211 := eq_true p211
                                    replace q211 := eq_true q211
                                    have p33 : 0 ≤ ((rd t196 x11_3) : Int) := of_decide_eq_true (by first | (with_reducible assumption) | assumption)
                                    have q33 : ((rd t196 x11_3) : Int) < ((x9_3.length : Int) : Int) := of_decide_eq_true (by first | (with_reducible assumption) | assumption)
                                    obtain ⟨go33, co33, eo33, gb33, gl33, cl33, HG33⟩ := Kd.R_form HO_9.out (by omega)
                                    (first | cases eo33 | (injection eo33 with ea_ en_ ec_; (first | subst ea_ | (injection ea_ with ea_; subst ea_)); subst ec_; clear en_))
                                    have GB33 := Aside0.mk gb33
                                    have GG33 := Aside0.mk HG33
                                    clear gb33 gl33 HG33
                                    (first | simp only [add_plain] at hx210_0 | skip)
                                    obtain ⟨hx33_0, hf33_0⟩ := Kd.R_celln 0 HO_9.out ((rd t196 x11_3) : Int) p33 q33
                                    replace p33 := eq_true p33
                                    replace q33 := eq_true q33
                                    have HP36 := Kd.R_putg HO_9.out ((rd t196 x11_3) : Int) x11_3
                                    go_wp2_with (first | ((with_reducible refine gate_store (t := 3) (p := 78) rfl ?_); (try (rw [drewN_self wr]; generalize hq_ : World.drewN wr _ = wr; have n0_ := Aside0.mk (Kd.R_at hq_ HO_6.out); have n1_ := Aside0.mk (Kd.R_at hq_ HO_9.out); have n2_ := Aside0.mk (below_at hq_ HB.out); clear hq_ HO_6 HO_9 HB; have HO_6 := n0_; have HO_9 := n1_; have HB := n2_; clear n0_ n1_ n2_; (try (have HP36 := Kd.R_putg HO_9.out ((rd t196 x11_3) : Int) x11_3)))); refine store_event (t := 3) (p := 78) (v := ?vo_w37) (w1 := (wr.setCell ⟨go33, ((rd t196 x11_3) : Int).toNat, none⟩ (.int .i64 x11_3))) ?hg ?ho ?hn ?hr ?_; (case ho => rfl); (case hg => rfl); (case hn => rfl); (case hr => first | (go_simp; done) | (go_simp; rfl)); intro w37 hw; have hg : wr.grownBy w37 (some go33) := (by rw [hw]; exact HP36.2); have hp_ : Kd.R (Kd.int .i64) 3 w37 w.heap.size (fun k_ => some k_ ≠ (.slice (some ad207) t196.length co34 : Value).ownBlock) (.slice (some ⟨go33, 0, none⟩) x9_3.length co35) y212 := (by rw [hw, Ny212.out]; exact HP36.1); clear HP36; have n0_ := Aside0.mk (Kd.R_after (v := (.slice (some ⟨go33, 0, none⟩) x9_3.length co35)) (v1 := (.slice (some ⟨go33, 0, none⟩) x9_3.length co35)) (ok := (fun _ => True)) (by (with_reducible repeat (first | apply Kd.R_alloc | apply Kd.R_drewN | apply Kd.R_drew)); exact Kd.R_mono HO_6.out (fun _ hk => ⟨trivial, hk⟩)) hg (.inl rfl)); have n1_ := Aside0.mk (hp_); have n2_ := Aside0.mk ((by rw [hw]; exact below_set (HB.out) GB33.out : Below w.heap.size w w37)); clear HO_6; clear HO_9; clear HB; have HO_6 := n0_; have HO_9 := n1_; have HB := n2_; clear n0_ n1_ n2_; clear hg hw hp_))
                                    repeat (go_quiet (first | ((with_reducible refine gate_store (t := 3) (p := 78) rfl ?_); (try (rw [drewN_self wr]; generalize hq_ : World.drewN wr _ = wr; have n0_ := Aside0.mk (Kd.R_at hq_ HO_6.out); have n1_ := Aside0.mk (Kd.R_at hq_ HO_9.out); have n2_ := Aside0.mk (below_at hq_ HB.out); clear hq_ HO_6 HO_9 HB; have HO_6 := n0_; have HO_9 := n1_; have HB := n2_; clear n0_ n1_ n2_; (try (have HP36 := Kd.R_putg HO_9.out ((rd t196 x11_3) : Int) x11_3)))); refine store_event (t := 3) (p := 78) (v := ?vo_w37) (w1 := (wr.setCell ⟨go33, ((rd t196 x11_3) : Int).toNat, none⟩ (.int .i64 x11_3))) ?hg ?ho ?hn ?hr ?_; (case ho => rfl); (case hg => rfl); (case hn => rfl); (case hr => first | (go_simp; done) | (go_simp; rfl)); intro w37 hw; have hg : wr.grownBy w37 (some go33) := (by rw [hw]; exact HP36.2); have hp_ : Kd.R (Kd.int .i64) 3 w37 w.heap.size (fun k_ => some k_ ≠ (.slice (some ad207) t196.length co34 : Value).ownBlock) (.slice (some ⟨go33, 0, none⟩) x9_3.length co35) y212 := (by rw [hw, Ny212.out]; exact HP36.1); clear HP36; have n0_ := Aside0.mk (Kd.R_after (v := (.slice (some ⟨go33, 0, none⟩) x9_3.length co35)) (v1 := (.slice (some ⟨go33, 0, none⟩) x9_3.length co35)) (ok := (fun _ => True)) (by (with_reducible repeat (first | apply Kd.R_alloc | apply Kd.R_drewN | apply Kd.R_drew)); exact Kd.R_mono HO_6.out (fun _ hk => ⟨trivial, hk⟩)) hg (.inl rfl)); have n1_ := Aside0.mk (hp_); have n2_ := Aside0.mk ((by rw [hw]; exact below_set (HB.out) GB33.out : Below w.heap.size w w37)); clear HO_6; clear HO_9; clear HB; have HO_6 := n0_; have HO_9 := n1_; have HB := n2_; clear n0_ n1_ n2_; clear hg hw hp_)); try go_wp2_with (first | ((with_reducible refine gate_store (t := 3) (p := 78) rfl ?_); (try (rw [drewN_self wr]; generalize hq_ : World.drewN wr _ = wr; have n0_ := Aside0.mk (Kd.R_at hq_ HO_6.out); have n1_ := Aside0.mk (Kd.R_at hq_ HO_9.out); have n2_ := Aside0.mk (below_at hq_ HB.out); clear hq_ HO_6 HO_9 HB; have HO_6 := n0_; have HO_9 := n1_; have HB := n2_; clear n0_ n1_ n2_; (try (have HP36 := Kd.R_putg HO_9.out ((rd t196 x11_3) : Int) x11_3)))); refine store_event (t := 3) (p := 78) (v := ?vo_w37) (w1 := (wr.setCell ⟨go33, ((rd t196 x11_3) : Int).toNat, none⟩ (.int .i64 x11_3))) ?hg ?ho ?hn ?hr ?_; (case ho => rfl); (case hg => rfl); (case hn => rfl); (case hr => first | (go_simp; done) | (go_simp; rfl)); intro w37 hw; have hg : wr.grownBy w37 (some go33) := (by rw [hw]; exact HP36.2); have hp_ : Kd.R (Kd.int .i64) 3 w37 w.heap.size (fun k_ => some k_ ≠ (.slice (some ad207) t196.length co34 : Value).ownBlock) (.slice (some ⟨go33, 0, none⟩) x9_3.length co35) y212 := (by rw [hw, Ny212.out]; exact HP36.1); clear HP36; have n0_ := Aside0.mk (Kd.R_after (v := (.slice (some ⟨go33, 0, none⟩) x9_3.length co35)) (v1 := (.slice (some ⟨go33, 0, none⟩) x9_3.length co35)) (ok := (fun _ => True)) (by (with_reducible repeat (first | apply Kd.R_alloc | apply Kd.R_drewN | apply Kd.R_drew)); exact Kd.R_mono HO_6.out (fun _ hk => ⟨trivial, hk⟩)) hg (.inl rfl)); have n1_ := Aside0.mk (hp_); have n2_ := Aside0.mk ((by rw [hw]; exact below_set (HB.out) GB33.out : Below w.heap.size w w37)); clear HO_6; clear HO_9; clear HB; have HO_6 := n0_; have HO_9 := n1_; have HB := n2_; clear n0_ n1_ n2_; clear hg hw hp_)))
                                    go_roundg k3
                                    case measure => have := HJ4.out; have := HK2.out; have := HK3.out; omega
                                    case rel => exact ⟨(y212), (wrap64 (x11_3 + 1)), (by first | rfl | (simp; done) | (simp [*]; done)), H', ⟨by have := HJ4.out; have := HK2.out; have := HK3.out; omega⟩, ⟨by (with_reducible repeat (first | apply Kd.R_alloc | apply Kd.R_drewN | apply Kd.R_drew)); exact Kd.R_mono HO_6.out (fun _ hk => hk.2)⟩, ⟨by (with_reducible repeat (first | apply Kd.R_alloc | apply Kd.R_drewN | apply Kd.R_drew)); exact HO_9.out⟩, ⟨by repeat (first | (with_reducible first | exact HB.out | apply below_alloc | apply pw_below_drewN | apply below_drew1) | exact HB.out)⟩⟩
                                · rw [if_neg c29] at H
                                  exact absurd H (by simp)
                              · rw [if_neg c28] at H
                                exact absurd H (by simp)
                        · rw [if_neg c23] at H
                          exact absurd H (by simp)
                      · rw [if_neg c22] at H
                        have c22b0 : decide (x11_3 < (t196.length : Int)) = false := decide_eq_false c22
                        clear c22
                        have H' := Aside0.mk H
                        clear H
                        obtain ⟨Ao38, co38, eo38⟩ := Kd.R_slice HO_6.out
                        subst eo38
                        go_wp2
                        repeat (go_quiet (fail); try go_wp2)
                        go_loopg [12] k3 (fun kq v12 w' => ∃ (x12_4 : Int), v12 = .int .i64 x12_4 ∧ Aside0 (majordomolaw08_GraphGoes.l2 kq a0 l1 t196 x9_3 x12_4 = some r) ∧ Aside0 (kq ≤ k3) ∧ Aside0 (Kd.R (Kd.int .i64) 3 w' w.heap.size (fun k_ => some k_ ≠ (v204 : Value).ownBlock) (.slice Ao38 t196.length co38) t196) ∧ Aside0 (Kd.R (Kd.int .i64) 3 w' w.heap.size (fun k_ => some k_ ≠ ((.slice Ao38 t196.length co38) : Value).ownBlock) v204 x9_3) ∧ Aside0 (Below w.heap.size w w'))
                        case atStart => exact ⟨(0), (by first | rfl | (simp; done) | (simp [*]; done)), H', ⟨Nat.le_refl _⟩, ⟨by (with_reducible repeat (first | apply Kd.R_alloc | apply Kd.R_drewN | apply Kd.R_drew)); exact HO_6.out⟩, ⟨by (with_reducible repeat (first | apply Kd.R_alloc | apply Kd.R_drewN | apply Kd.R_drew)); exact HO_9.out⟩, ⟨by repeat (first | (with_reducible first | exact HB.out | apply below_alloc | apply pw_below_drewN | apply below_drew1) | exact HB.out)⟩⟩
                        case round =>
                          clear H'
                          try clear c1
                          try clear p1
                          try clear q1
                          try clear hx1
                          try clear c2
                          try clear p2
                          try clear q2
                          try clear hx2
                          try clear c3
                          try clear p3
                          try clear q3
                          try clear hx3
                          try clear hf3
                          try clear c4
                          try clear p6
                          try clear c8
                          try clear c9
                          try clear c10
                          try clear c12
                          try clear c12b0
                          try clear c12b1
                          try clear c13
                          try clear c13b0
                          try clear c13b1
                          try clear c16
                          try clear c16b0
                          try clear c17
                          try clear c17b0
                          try clear c18
                          try clear c18b0
                          try clear p19
                          try clear q19
                          try clear hx19
                          try clear hf19
                          try clear p20
                          try clear q20
                          try clear hx20
                          try clear p21
                          try clear q21
                          try clear hx21
                          try clear c22
                          try clear c22b0
                          try clear c23
                          try clear c23b0
                          try clear c24
                          try clear c24b0
                          try clear c26
                          try clear c26b0
                          try clear c28
                          try clear c28b0
                          try clear c29
                          try clear c29b0
                          try clear c30
                          try clear c30b0
                          try clear p33
                          try clear q33
                          try clear hx33
                          try clear hf33
                          try clear hx19_0
                          try clear hx207_0
                          try clear hx208_0
                          try clear hx209_0
                          try clear hx210_0
                          try clear hx211_0
                          try clear hx33_0
                          try clear p1
                          try clear p19
                          try clear p2
                          try clear p207
                          try clear p208
                          try clear p209
                          try clear p210
                          try clear p211
                          try clear p33
                          try clear p6
                          try clear q1
                          try clear q19
                          try clear q207
                          try clear q208
                          try clear q209
                          try clear q210
                          try clear q211
                          try clear q33
                          obtain ⟨x12_4, rfl, HA, HK4, HO_6, HO_9, HB⟩ := hrel
                          cases gk with
                          | zero => exact absurd HA.out (by simp [majordomolaw08_GraphGoes.l2])
                          | succ k4 =>
                            have H := HA.out
                            clear HA
                            simp only [majordomolaw08_GraphGoes.l2] at H
                            by_cases c39 : x12_4 < (l1.length : Int)
                            · rw [if_pos c39] at H
                              have c39b0 : decide (x12_4 < (l1.length : Int)) = true := decide_eq_true c39
                              clear c39
                              by_cases c40 : 0 ≤ x12_4
                              · rw [if_pos c40] at H
                                have c40b0 : decide (0 ≤ x12_4) = true := decide_eq_true c40
                                clear c40
                                by_cases c41 : 0 ≤ ((rd_T32 l1 x12_4).f0)
                                · rw [if_pos c41] at H
                                  have c41b0 : decide (0 ≤ ((rd_T32 l1 x12_4).f0)) = true := decide_eq_true c41
                                  clear c41
                                  by_cases c42 : ((rd_T32 l1 x12_4).f0) < (x9_3.length : Int)
                                  · rw [if_pos c42] at H
                                    have c42b0 : decide (((rd_T32 l1 x12_4).f0) < (x9_3.length : Int)) = true := decide_eq_true c42
                                    clear c42
                                    by_cases c43 : 0 ≤ ((rd_T32 l1 x12_4).f1)
                                    · rw [if_pos c43] at H
                                      have c43b0 : decide (0 ≤ ((rd_T32 l1 x12_4).f1)) = true := decide_eq_true c43
                                      clear c43
                                      by_cases c44 : ((rd_T32 l1 x12_4).f1) < (x9_3.length : Int)
                                      · rw [if_pos c44] at H
                                        have c44b0 : decide (((rd_T32 l1 x12_4).f1) < (x9_3.length : Int)) = true := decide_eq_true c44
                                        clear c44
                                        by_cases c45 : (rd x9_3 ((rd_T32 l1 x12_4).f0)) ≥ (rd x9_3 ((rd_T32 l1 x12_4).f1))
                                        · rw [if_pos c45] at H
                                          have c45b0 : decide ((rd x9_3 ((rd_T32 l1 x12_4).f1)) ≤ (rd x9_3 ((rd_T32 l1 x12_4).f0))) = true := decide_eq_true c45
                                          clear c45
                                          obtain rfl := Option.some.inj H
                                          have p213 : 0 ≤ (x12_4 : Int) := of_decide_eq_true (by first | (with_reducible assumption) | assumption)
                                          have q213 : x12_4 < (l1.length : Int) := of_decide_eq_true (by first | (with_reducible assumption) | assumption)
                                          obtain ⟨ad213, e213, hx213_0, hx213_1, hx213_2⟩ := at_T32 HR1.out x12_4 p213 q213
                                          cases e213
                                          replace hx213_0 := (HB.out.cell (World.block_lt_of_cell? w _ hx213_0)).trans hx213_0
                                          replace hx213_1 := (HB.out.cell (World.block_lt_of_cell? w _ hx213_1)).trans hx213_1
                                          replace hx213_2 := (HB.out.cell (World.block_lt_of_cell? w _ hx213_2)).trans hx213_2
                                          replace p213 := eq_true p213
                                          replace q213 := eq_true q213
                                          obtain ⟨Ao46, co46, eo46⟩ := Kd.R_slice HO_9.out
                                          subst eo46
                                          have p214 : 0 ≤ (((rd_T32 l1 x12_4).f0) : Int) := of_decide_eq_true (by first | (with_reducible assumption) | assumption)
                                          have q214 : ((rd_T32 l1 x12_4).f0) < (x9_3.length : Int) := of_decide_eq_true (by first | (with_reducible assumption) | assumption)
                                          obtain ⟨ad214, e214, hx214_0⟩ := Kd.at_int (Kd.R_reads' HO_9.out).2.2 ((rd_T32 l1 x12_4).f0) p214 q214
                                          cases e214
                                          replace p214 := eq_true p214
                                          replace q214 := eq_true q214
                                          have p215 : 0 ≤ (x12_4 : Int) := of_decide_eq_true (by first | (with_reducible assumption) | assumption)
                                          have q215 : x12_4 < (l1.length : Int) := of_decide_eq_true (by first | (with_reducible assumption) | assumption)
                                          obtain ⟨ad215, e215, hx215_0, hx215_1, hx215_2⟩ := at_T32 HR1.out x12_4 p215 q215
                                          obtain rfl : ad213 = ad215 := (by injection e215)
                                          replace hx215_0 := (HB.out.cell (World.block_lt_of_cell? w _ hx215_0)).trans hx215_0
                                          replace hx215_1 := (HB.out.cell (World.block_lt_of_cell? w _ hx215_1)).trans hx215_1
                                          replace hx215_2 := (HB.out.cell (World.block_lt_of_cell? w _ hx215_2)).trans hx215_2
                                          replace p215 := eq_true p215
                                          replace q215 := eq_true q215
                                          have p216 : 0 ≤ (((rd_T32 l1 x12_4).f1) : Int) := of_decide_eq_true (by first | (with_reducible assumption) | assumption)
                                          have q216 : ((rd_T32 l1 x12_4).f1) < (x9_3.length : Int) := of_decide_eq_true (by first | (with_reducible assumption) | assumption)
                                          obtain ⟨ad216, e216, hx216_0⟩ := Kd.at_int (Kd.R_reads' HO_9.out).2.2 ((rd_T32 l1 x12_4).f1) p216 q216
                                          obtain rfl : ad214 = ad216 := (by injection e216)
                                          replace p216 := eq_true p216
                                          replace q216 := eq_true q216
                                          go_wp2
                                          repeat (go_quiet (fail); try go_wp2)
                                          go_ret
                                          exact ⟨by first | rfl | (simp [errW_none, errW_some] <;> rfl) | (simp [*, errW_none, errW_some] <;> rfl), by repeat (first | (with_reducible first | exact HB.out | apply below_alloc | apply pw_below_drewN | apply below_drew1) | exact HB.out)⟩
                                        · rw [if_neg c45] at H
                                          have c45b0 : decide ((rd x9_3 ((rd_T32 l1 x12_4).f1)) ≤ (rd x9_3 ((rd_T32 l1 x12_4).f0))) = false := decide_eq_false c45
                                          clear c45
                                          have H' := Aside0.mk H
                                          clear H
                                          have p213 : 0 ≤ (x12_4 : Int) := of_decide_eq_true (by first | (with_reducible assumption) | assumption)
                                          have q213 : x12_4 < (l1.length : Int) := of_decide_eq_true (by first | (with_reducible assumption) | assumption)
                                          obtain ⟨ad213, e213, hx213_0, hx213_1, hx213_2⟩ := at_T32 HR1.out x12_4 p213 q213
                                          cases e213
                                          replace hx213_0 := (HB.out.cell (World.block_lt_of_cell? w _ hx213_0)).trans hx213_0
                                          replace hx213_1 := (HB.out.cell (World.block_lt_of_cell? w _ hx213_1)).trans hx213_1
                                          replace hx213_2 := (HB.out.cell (World.block_lt_of_cell? w _ hx213_2)).trans hx213_2
                                          replace p213 := eq_true p213
                                          replace q213 := eq_true q213
                                          obtain ⟨Ao47, co47, eo47⟩ := Kd.R_slice HO_9.out
                                          subst eo47
                                          have p214 : 0 ≤ (((rd_T32 l1 x12_4).f0) : Int) := of_decide_eq_true (by first | (with_reducible assumption) | assumption)
                                          have q214 : ((rd_T32 l1 x12_4).f0) < (x9_3.length : Int) := of_decide_eq_true (by first | (with_reducible assumption) | assumption)
                                          obtain ⟨ad214, e214, hx214_0⟩ := Kd.at_int (Kd.R_reads' HO_9.out).2.2 ((rd_T32 l1 x12_4).f0) p214 q214
                                          cases e214
                                          replace p214 := eq_true p214
                                          replace q214 := eq_true q214
                                          have p215 : 0 ≤ (x12_4 : Int) := of_decide_eq_true (by first | (with_reducible assumption) | assumption)
                                          have q215 : x12_4 < (l1.length : Int) := of_decide_eq_true (by first | (with_reducible assumption) | assumption)
                                          obtain ⟨ad215, e215, hx215_0, hx215_1, hx215_2⟩ := at_T32 HR1.out x12_4 p215 q215
                                          obtain rfl : ad213 = ad215 := (by injection e215)
                                          replace hx215_0 := (HB.out.cell (World.block_lt_of_cell? w _ hx215_0)).trans hx215_0
                                          replace hx215_1 := (HB.out.cell (World.block_lt_of_cell? w _ hx215_1)).trans hx215_1
                                          replace hx215_2 := (HB.out.cell (World.block_lt_of_cell? w _ hx215_2)).trans hx215_2
                                          replace p215 := eq_true p215
                                          replace q215 := eq_true q215
                                          have p216 : 0 ≤ (((rd_T32 l1 x12_4).f1) : Int) := of_decide_eq_true (by first | (with_reducible assumption) | assumption)
                                          have q216 : ((rd_T32 l1 x12_4).f1) < (x9_3.length : Int) := of_decide_eq_true (by first | (with_reducible assumption) | assumption)
                                          obtain ⟨ad216, e216, hx216_0⟩ := Kd.at_int (Kd.R_reads' HO_9.out).2.2 ((rd_T32 l1 x12_4).f1) p216 q216
                                          obtain rfl : ad214 = ad216 := (by injection e216)
                                          replace p216 := eq_true p216
                                          replace q216 := eq_true q216
                                          go_wp2
                                          repeat (go_quiet (fail); try go_wp2)
                                          go_roundg k4
                                          case measure => have := HJ4.out; have := HK2.out; have := HK3.out; have := HK4.out; omega
                                          case rel => exact ⟨(wrap64 (x12_4 + 1)), (by first | rfl | (simp; done) | (simp [*]; done)), H', ⟨by have := HJ4.out; have := HK2.out; have := HK3.out; have := HK4.out; omega⟩, ⟨by (with_reducible repeat (first | apply Kd.R_alloc | apply Kd.R_drewN | apply Kd.R_drew)); exact HO_6.out⟩, ⟨by (with_reducible repeat (first | apply Kd.R_alloc | apply Kd.R_drewN | apply Kd.R_drew)); exact HO_9.out⟩, ⟨by repeat (first | (with_reducible first | exact HB.out | apply below_alloc | apply pw_below_drewN | apply below_drew1) | exact HB.out)⟩⟩
                                      · rw [if_neg c44] at H
                                        exact absurd H (by simp)
                                    · rw [if_neg c43] at H
                                      exact absurd H (by simp)
                                  · rw [if_neg c42] at H
                                    exact absurd H (by simp)
                                · rw [if_neg c41] at H
                                  exact absurd H (by simp)
                              · rw [if_neg c40] at H
                                exact absurd H (by simp)
                            · rw [if_neg c39] at H
                              have c39b0 : decide (x12_4 < (l1.length : Int)) = false := decide_eq_false c39
                              clear c39
                              obtain rfl := Option.some.inj H
                              go_wp2
                              repeat (go_quiet (fail); try go_wp2)
                              go_ret
                              exact ⟨by first | rfl | (simp [errW_none, errW_some] <;> rfl) | (simp [*, errW_none, errW_some] <;> rfl), by repeat (first | (with_reducible first | exact HB.out | apply below_alloc | apply pw_below_drewN | apply below_drew1) | exact HB.out)⟩
          · rw [if_neg c13] at H
            exact absurd H (by simp)
        · rw [if_neg c12] at H
          exact absurd H (by simp)

end Go.Proofs.Ytkcfjnacnabdaaa.PG
