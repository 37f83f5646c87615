-- printed by wip/printx (a program of this session's, over the kit's print)
import Derived.Test.YtkcfjnacnabdaaaPGx0
import Derived.Test.YtkcfjnacnabdaaaPGx3
import Derived.Test.YtkcfjnacnabdaaaPGx4
namespace Go.Proofs.Ytkcfjnacnabdaaa.PG
open Go.RowKit Go.Proofs.YtkcfjnacnabdaaaW.PrintWords Go.Proofs.YtkcfjnacnabdaaaW.PrintLast Go.Proofs.YtkcfjnacnabdaaaW.PrintMore
attribute [local go_sem] max2_int min2_int max_two min_two max_three min_three max_four min_four Go.Proofs.Ytkcfjnacnabdaaa.PxMore.isSome_setCell   -- for this text's walks alone
set_option linter.unusedVariables false
set_option linter.unusedSimpArgs false

/-! ### majordomolaw08_GraphFewer: function 7 -/
mutual
def majordomolaw08_GraphFewer.j0 : Nat → Int → List (S32) → Int → Bool → List Int → Int → Bool → Option (Bool)
  | 0, _, _, _, _, _, _, _ => none
  | k + 1, x0, x1, x2, x7, x9, x10, x38 => if x38 = true then (some x7) else (if x2 < 0 then (majordomolaw08_GraphFewer.j1 k x0 x1 (wrap64 (-(wrap64 (x2 + 1)))) x9 x10) else (majordomolaw08_GraphFewer.j1 k x0 x1 x2 x9 x10))
def majordomolaw08_GraphFewer.j1 : Nat → Int → List (S32) → Int → List Int → Int → Option (Bool)
  | 0, _, _, _, _, _ => none
  | k + 1, x0, x1, x2, x9, x10 => if (x1.length : Int) = 0 then (none) else ((some (([] : List (S32)) : List (S32))).bind fun y259 => (if 0 ≤ (Int.tmod x2 (x1.length : Int)) then (if (Int.tmod x2 (x1.length : Int)) ≤ (x1.length : Int) then ((some (x1.take ((Int.tmod x2 (x1.length : Int)) : Int).toNat : List (S32))).bind fun y262 => (if y259.length + y262.length < 5864062014805 then ((some (y259 ++ y262 : List (S32))).bind fun y266 => (if 0 ≤ (wrap64 ((Int.tmod x2 (x1.length : Int)) + 1)) then (if (wrap64 ((Int.tmod x2 (x1.length : Int)) + 1)) ≤ (x1.length : Int) then ((some (x1.drop ((wrap64 ((Int.tmod x2 (x1.length : Int)) + 1)) : Int).toNat : List (S32))).bind fun y269 => (if y266.length + y269.length < 5864062014805 then ((graph_Order.f k x0 (y266 ++ y269)).bind fun bt276 => (if x10 = 0 then (some (bt276.2.2 == 0)) else (majordomolaw08_GraphFewer.l0 k x0 x9 (([] : List (S32))) 0))) else (none))) else (none)) else (none))) else (none))) else (none)) else (none)))
def majordomolaw08_GraphFewer.l0 : Nat → Int → List Int → List (S32) → Int → Option (Bool)
  | 0, _, _, _, _ => none
  | k + 1, x0, x9, x15, x16 => if x16 < (x9.length : Int) then (if 0 ≤ x16 then (if (x9.length : Int) = 0 then (none) else (if 0 ≤ (Int.tmod (wrap64 (x16 + 1)) (x9.length : Int)) then (if (Int.tmod (wrap64 (x16 + 1)) (x9.length : Int)) < (x9.length : Int) then (if x15.length < 5864062014805 then (majordomolaw08_GraphFewer.l0 k x0 x9 (x15 ++ [(⟨rd x9 x16, rd x9 (Int.tmod (wrap64 (x16 + 1)) (x9.length : Int)), false⟩ : S32)]) (wrap64 (x16 + 1))) else (none)) else (none)) else (none))) else (none)) else ((graph_Order.f k x0 x15).bind fun bt291 => (some (bt291.2.2 == 80)))
end
def majordomolaw08_GraphFewer.f (k : Nat) (a0 : Int) (l1 : List (S32)) (a2 : Int) : Option (Bool) := (majordomolaw08_shown.f k).bind fun t251 => ((graph_Order.f k a0 l1).bind fun bt252 => (if t251 = true then (if bt252.2.2 = 1 then (majordomolaw08_GraphFewer.j0 k a0 l1 a2 t251 bt252.2.1 bt252.2.2 true) else (majordomolaw08_GraphFewer.j0 k a0 l1 a2 t251 bt252.2.1 bt252.2.2 ((l1.length : Int) == 0))) else (majordomolaw08_GraphFewer.j0 k a0 l1 a2 t251 bt252.2.1 bt252.2.2 true)))
theorem majordomolaw08_GraphFewer.mono_l : ∀ k, (∀ y0 y1 y2 y3 y4 y5 y6, LeO (majordomolaw08_GraphFewer.j0 k y0 y1 y2 y3 y4 y5 y6) (majordomolaw08_GraphFewer.j0 (k + 1) y0 y1 y2 y3 y4 y5 y6)) ∧ (∀ y0 y1 y2 y3 y4, LeO (majordomolaw08_GraphFewer.j1 k y0 y1 y2 y3 y4) (majordomolaw08_GraphFewer.j1 (k + 1) y0 y1 y2 y3 y4)) ∧ (∀ y0 y1 y2 y3, LeO (majordomolaw08_GraphFewer.l0 k y0 y1 y2 y3) (majordomolaw08_GraphFewer.l0 (k + 1) y0 y1 y2 y3))
  | 0 => ⟨fun _ _ _ _ _ _ _ r h => by simp [majordomolaw08_GraphFewer.j0] at h, fun _ _ _ _ _ r h => by simp [majordomolaw08_GraphFewer.j1] at h, fun _ _ _ _ r h => by simp [majordomolaw08_GraphFewer.l0] at h⟩
  | k + 1 => by
    obtain ⟨ih0, ih1, ih2⟩ := majordomolaw08_GraphFewer.mono_l k
    refine ⟨?_, ?_, ?_⟩
    · intro y0 y1 y2 y3 y4 y5 y6
      unfold majordomolaw08_GraphFewer.j0
      repeat' first
      | (with_reducible exact ih0 _ _ _ _ _ _ _)
      | (with_reducible exact ih1 _ _ _ _ _)
      | (with_reducible exact ih2 _ _ _ _)
      | (with_reducible exact graph_Order.mono _ _ _)
      | (with_reducible exact majordomolaw08_shown.mono _)
      | (with_reducible exact LeO.refl _)
      | (with_reducible exact LeO.none _)
      | (with_reducible refine LeO.ite ?_ ?_)
      | (with_reducible refine LeO.bind ?_ (fun _ => ?_))
      | exact ih0 _ _ _ _ _ _ _
      | exact ih1 _ _ _ _ _
      | exact ih2 _ _ _ _
      | exact graph_Order.mono _ _ _
      | exact majordomolaw08_shown.mono _
      | exact LeO.none _
      | refine LeO.ite ?_ ?_
      | refine LeO.bind ?_ (fun _ => ?_)
    · intro y0 y1 y2 y3 y4
      unfold majordomolaw08_GraphFewer.j1
      repeat' first
      | (with_reducible exact ih0 _ _ _ _ _ _ _)
      | (with_reducible exact ih1 _ _ _ _ _)
      | (with_reducible exact ih2 _ _ _ _)
      | (with_reducible exact graph_Order.mono _ _ _)
      | (with_reducible exact majordomolaw08_shown.mono _)
      | (with_reducible exact LeO.refl _)
      | (with_reducible exact LeO.none _)
      | (with_reducible refine LeO.ite ?_ ?_)
      | (with_reducible refine LeO.bind ?_ (fun _ => ?_))
      | exact ih0 _ _ _ _ _ _ _
      | exact ih1 _ _ _ _ _
      | exact ih2 _ _ _ _
      | exact graph_Order.mono _ _ _
      | exact majordomolaw08_shown.mono _
      | exact LeO.none _
      | refine LeO.ite ?_ ?_
      | refine LeO.bind ?_ (fun _ => ?_)
    · intro y0 y1 y2 y3
      unfold majordomolaw08_GraphFewer.l0
      repeat' first
      | (with_reducible exact ih0 _ _ _ _ _ _ _)
      | (with_reducible exact ih1 _ _ _ _ _)
      | (with_reducible exact ih2 _ _ _ _)
      | (with_reducible exact graph_Order.mono _ _ _)
      | (with_reducible exact majordomolaw08_shown.mono _)
      | (with_reducible exact LeO.refl _)
      | (with_reducible exact LeO.none _)
      | (with_reducible refine LeO.ite ?_ ?_)
      | (with_reducible refine LeO.bind ?_ (fun _ => ?_))
      | exact ih0 _ _ _ _ _ _ _
      | exact ih1 _ _ _ _ _
      | exact ih2 _ _ _ _
      | exact graph_Order.mono _ _ _
      | exact majordomolaw08_shown.mono _
      | exact LeO.none _
      | refine LeO.ite ?_ ?_
      | refine LeO.bind ?_ (fun _ => ?_)
theorem majordomolaw08_GraphFewer.mono : ∀ a0 a1 a2 k, LeO (majordomolaw08_GraphFewer.f k a0 a1 a2) (majordomolaw08_GraphFewer.f (k + 1) a0 a1 a2) := by
  intro a0 a1 a2 k
  obtain ⟨ih0, ih1, ih2⟩ := majordomolaw08_GraphFewer.mono_l k
  unfold majordomolaw08_GraphFewer.f
  repeat' first
      | (with_reducible exact ih0 _ _ _ _ _ _ _)
      | (with_reducible exact ih1 _ _ _ _ _)
      | (with_reducible exact ih2 _ _ _ _)
      | (with_reducible exact graph_Order.mono _ _ _)
      | (with_reducible exact majordomolaw08_shown.mono _)
      | (with_reducible exact LeO.refl _)
      | (with_reducible exact LeO.none _)
      | (with_reducible refine LeO.ite ?_ ?_)
      | (with_reducible refine LeO.bind ?_ (fun _ => ?_))
      | exact ih0 _ _ _ _ _ _ _
      | exact ih1 _ _ _ _ _
      | exact ih2 _ _ _ _
      | exact graph_Order.mono _ _ _
      | exact majordomolaw08_shown.mono _
      | exact LeO.none _
      | refine LeO.ite ?_ ?_
      | refine LeO.bind ?_ (fun _ => ?_)
def majordomolaw08_GraphFewer.T8 : Bool × List (List Nat × List Nat) := (true, [([], []), ([], []), ([], []), ([1, 2], [1, 2]), ([0, 3], [0, 3]), ([], []), ([], []), ([6], [6]), ([5, 7], [5, 7]), ([4, 8, 4], [4, 8]), ([9, 9, 0, 1, 2, 3, 4, 5, 6, 7, 8, 9], [9])])
def majordomolaw08_GraphFewer.B8 : List Nat := [0, 0, 0, 6, 15, 0, 0, 64, 224, 511, 1023]
theorem majordomolaw08_GraphFewer.tab8 : rtab .any (opsOf Try.f7 8) = majordomolaw08_GraphFewer.T8 := by kernel_rfl
theorem majordomolaw08_GraphFewer.bits8 : waitsOk majordomolaw08_GraphFewer.T8.2 majordomolaw08_GraphFewer.B8 = true := by kernel_rfl
def majordomolaw08_GraphFewer.T16 : Bool × List (List Nat × List Nat) := (true, [([], []), ([], []), ([], []), ([1, 2], [1, 2]), ([3], [3]), ([], []), ([], []), ([6], [6]), ([], []), ([8], [8]), ([7, 9], [7, 9]), ([5, 10], [5, 10]), ([11], [11]), ([4, 12], [4, 12]), ([13], [13]), ([0, 14], [0, 14]), ([15, 15, 0, 1, 2, 3, 4, 5, 6, 7, 8, 9, 10, 11, 12, 13, 14, 15], [0, 15])])
def majordomolaw08_GraphFewer.B16 : List Nat := [0, 0, 0, 6, 14, 0, 0, 64, 0, 256, 960, 2016, 4064, 8190, 16382, 32767, 65535]
theorem majordomolaw08_GraphFewer.tab16 : rtab .any (opsOf Try.f7 16) = majordomolaw08_GraphFewer.T16 := by kernel_rfl
theorem majordomolaw08_GraphFewer.bits16 : waitsOk majordomolaw08_GraphFewer.T16.2 majordomolaw08_GraphFewer.B16 = true := by kernel_rfl
set_option maxHeartbeats 8000000 in
set_option maxRecDepth 100000 in
theorem majordomolaw08_GraphFewer.calls (k : Nat) (a0 : Int) (A1 : Option Addr) (c1 : Nat) (l1 : List (S32)) (a2 : Int) (r : Bool) (w : World) (hr1 : Kd.C k32 w A1 l1.length l1) (hc1 : l1.length ≤ c1) (h : majordomolaw08_GraphFewer.f k a0 l1 a2 = some r) :
    Calls Try.prog 7 #[.int .i64 a0, .slice A1 l1.length c1, .int .i64 a2] w fun e w' => e = .returned (.bool r) ∧ Below w.heap.size w w' := by
  have hu32 := Try.underlying32
  have HR1 := Aside0.mk hr1
  have HC1 := Aside0.mk hc1
  clear hr1 hc1
  have HB := Aside0.mk (Below.refl w.heap.size w)
  have H : ((majordomolaw08_shown.f k).bind fun t251 => ((graph_Order.f k a0 l1).bind fun bt252 => (if t251 = true then (if bt252.2.2 = 1 then (majordomolaw08_GraphFewer.j0 k a0 l1 a2 t251 bt252.2.1 bt252.2.2 true) else (majordomolaw08_GraphFewer.j0 k a0 l1 a2 t251 bt252.2.1 bt252.2.2 ((l1.length : Int) == 0))) else (majordomolaw08_GraphFewer.j0 k a0 l1 a2 t251 bt252.2.1 bt252.2.2 true)))) = some r := h
  clear h
  replace H := Option.bind_eq_some_iff.mp H
  obtain ⟨t251, A40, H⟩ := H
  replace H : ((graph_Order.f k a0 l1).bind fun bt252 => (if t251 = true then (if bt252.2.2 = 1 then (majordomolaw08_GraphFewer.j0 k a0 l1 a2 t251 bt252.2.1 bt252.2.2 true) else (majordomolaw08_GraphFewer.j0 k a0 l1 a2 t251 bt252.2.1 bt252.2.2 ((l1.length : Int) == 0))) else (majordomolaw08_GraphFewer.j0 k a0 l1 a2 t251 bt252.2.1 bt252.2.2 true))) = some r := H
  have A4 := Aside0.mk A40
  clear A40
  replace H := Option.bind_eq_some_iff.mp H
  obtain ⟨⟨t252, t253, t254⟩, A50, H⟩ := H
  replace H : (if t251 = true then (if t254 = 1 then (majordomolaw08_GraphFewer.j0 k a0 l1 a2 t251 t253 t254 true) else (majordomolaw08_GraphFewer.j0 k a0 l1 a2 t251 t253 t254 ((l1.length : Int) == 0))) else (majordomolaw08_GraphFewer.j0 k a0 l1 a2 t251 t253 t254 true)) = some r := H
  have A5 := Aside0.mk A50
  clear A50
  have HC6 := Aside0.mk H
  clear H
  go_enter Try.func7, Try.ntmps7
  go_upto_region 3 with (first | ((with_reducible refine gate_callee (f := 8) rfl ?_); refine goesL_ (some 20) rfl rfl Try.func8 (by kernel_rfl) rfl #[] rfl (by (try simp only [List.map_toArray, List.map_cons, List.map_nil]); first | done | rfl | (simp only [List.length_drop, List.length_take]; rfl)) ?_; (with_reducible refine (majordomolaw08_shown.calls k  t251 _ A4.out).mono ?_); rintro e w7 ⟨rfl, hb⟩; refine ⟨_, rfl, ?_⟩; have n0_ := Aside0.mk (below_step (by repeat (first | (with_reducible first | exact HB.out | apply below_alloc | apply pw_below_drewN | apply below_drew1) | exact HB.out)) hb); clear HB; have HB := n0_; clear n0_; (try clear hb); (try clear hb2); (try clear hk); (try clear hi)) | ((with_reducible refine gate_callee (f := 9) rfl ?_); refine goesL_ (some 24) rfl rfl Try.func9 (by kernel_rfl) rfl #[.int .i64 a0, .slice A1 l1.length c1] rfl (by (try simp only [List.map_toArray, List.map_cons, List.map_nil]); first | done | rfl | (simp only [List.length_drop, List.length_take]; rfl)) ?_; (with_reducible refine (graph_Order.calls k a0 _ _ l1 t252 t253 t254 _ ?side1 ?side2 A5.out).mono ?_); (case side1 => repeat (first | exact (Kd.C_below HR1.out HB.out) | (with_reducible refine Kd.C_alloc ?_ _) | (with_reducible refine Kd.C_drewN ?_ _) | (with_reducible refine Kd.C_drew ?_))); (case side2 => exact HC1.out); rintro e w8 ⟨v255, v257, rfl, ho0, ho1, hb⟩; refine ⟨_, rfl, ?_⟩; have n0_ := Aside0.mk (Kd.R_lower ho0 (below_size (by repeat (first | (with_reducible first | exact HB.out | apply below_alloc | apply pw_below_drewN | apply below_drew1) | exact HB.out)))); have n1_ := Aside0.mk (Kd.Q_lower ho1 (below_size (by repeat (first | (with_reducible first | exact HB.out | apply below_alloc | apply pw_below_drewN | apply below_drew1) | exact HB.out)))); have n2_ := Aside0.mk (below_step (by repeat (first | (with_reducible first | exact HB.out | apply below_alloc | apply pw_below_drewN | apply below_drew1) | exact HB.out)) hb); clear HB; have HO256 := n0_; have HO258 := n1_; have HB := n2_; clear n0_ n1_ n2_; (try clear hb); (try clear hb2); (try clear hk); (try clear hi); (try clear ho0); (try clear ho1)))
  (try simp only [Act.put, List.setIfInBounds_toArray, List.set_cons_zero, List.set_cons_succ])
  go_cut [38] (fun v38 wc => ∃ (kq : Nat) (x38_5 : Bool), v38 = .bool x38_5 ∧ Aside0 (majordomolaw08_GraphFewer.j0 kq a0 l1 a2 t251 t253 t254 x38_5 = some r) ∧ Aside0 (kq ≤ k) ∧ Aside0 (Kd.Q (Kd.int .i64) 3 wc w.heap.size (fun _ => True) v257 t253) ∧ Aside0 (Below w.heap.size w wc))
  case first =>
    have H := HC6.out
    clear HC6
    by_cases c9 : t251 = true
    · subst c9
      have H1 : (if t254 = 1 then (majordomolaw08_GraphFewer.j0 k a0 l1 a2 true t253 t254 true) else (majordomolaw08_GraphFewer.j0 k a0 l1 a2 true t253 t254 ((l1.length : Int) == 0))) = some r := by rw [if_pos rfl] at H; exact H
      clear H
      have H := H1
      clear H1
      by_cases c10 : t254 = 1
      · rw [if_pos c10] at H
        have c10b0 : (t254 == 1) = true := beq_iff_eq.mpr c10
        have c10b1 : (t254 != 1) = false := bne_eq_false_iff_eq.mpr c10
        clear c10
        (first | rw [c10b0] | (simp only [i64_w, i32_w]; rw [c10b0]) | skip)
        have H' := Aside0.mk H
        clear H
        go_wp2
        go_meet
        case rel => exact ⟨_, (true), (by first | rfl | (simp; done) | (simp [*]; done)), H', ⟨by first | omega | exact Nat.le_refl _⟩, ⟨by (with_reducible repeat (first | apply Kd.Q_alloc | apply Kd.Q_drewN | apply Kd.Q_drew)); exact Kd.Q_mono HO258.out (fun _ hk => trivial)⟩, ⟨by repeat (first | (with_reducible first | exact HB.out | apply below_alloc | apply pw_below_drewN | apply below_drew1) | exact HB.out)⟩⟩
      · rw [if_neg c10] at H
        have c10b0 : (t254 == 1) = false := beq_eq_false_iff_ne.mpr c10
        have c10b1 : (t254 != 1) = true := bne_iff_ne.mpr c10
        (first | rw [c10b0] | (simp only [i64_w, i32_w]; rw [c10b0]) | skip)
        have H' := Aside0.mk H
        clear H
        go_wp2
        go_meet
        case rel => exact ⟨_, (((l1.length : Int) == 0)), (by first | rfl | (simp; done) | (simp [*]; done)), H', ⟨by first | omega | exact Nat.le_refl _⟩, ⟨by (with_reducible repeat (first | apply Kd.Q_alloc | apply Kd.Q_drewN | apply Kd.Q_drew)); exact Kd.Q_mono HO258.out (fun _ hk => trivial)⟩, ⟨by repeat (first | (with_reducible first | exact HB.out | apply below_alloc | apply pw_below_drewN | apply below_drew1) | exact HB.out)⟩⟩
    · replace c9 := Bool.eq_false_iff.mpr c9
      subst c9
      have H1 : (majordomolaw08_GraphFewer.j0 k a0 l1 a2 false t253 t254 true) = some r := by rw [if_neg (show ¬ (false = true) by decide)] at H; exact H
      clear H
      have H := H1
      clear H1
      have H' := Aside0.mk H
      clear H
      go_wp2
      go_meet
      case rel => exact ⟨_, (true), (by first | rfl | (simp; done) | (simp [*]; done)), H', ⟨by first | omega | exact Nat.le_refl _⟩, ⟨by (with_reducible repeat (first | apply Kd.Q_alloc | apply Kd.Q_drewN | apply Kd.Q_drew)); exact Kd.Q_mono HO258.out (fun _ hk => trivial)⟩, ⟨by repeat (first | (with_reducible first | exact HB.out | apply below_alloc | apply pw_below_drewN | apply below_drew1) | exact HB.out)⟩⟩
  case rest =>
    clear HC6
    try clear c1
    try clear p2
    try clear c7
    try clear c8
    try clear c9
    try clear c10
    try clear c10b0
    try clear c10b1
    obtain ⟨kq, x38_5, rfl, HA, HJ5, HO_9, HB⟩ := hcut
    cases kq with
    | zero => exact absurd HA.out (by simp [majordomolaw08_GraphFewer.j0])
    | succ kj5 =>
      have H := HA.out
      clear HA
      simp only [majordomolaw08_GraphFewer.j0] at H
      by_cases c11 : x38_5 = true
      · subst c11
        have H1 : (some t251) = some r := by rw [if_pos rfl] at H; exact H
        clear H
        have H := H1
        clear H1
        obtain rfl := Option.some.inj H
        go_wp2
        go_ret
        exact ⟨by first | rfl | (simp [errW_none, errW_some] <;> rfl) | (simp [*, errW_none, errW_some] <;> rfl), by repeat (first | (with_reducible first | exact HB.out | apply below_alloc | apply pw_below_drewN | apply below_drew1) | exact HB.out)⟩
      · replace c11 := Bool.eq_false_iff.mpr c11
        subst c11
        have H1 : (if a2 < 0 then (majordomolaw08_GraphFewer.j1 kj5 a0 l1 (wrap64 (-(wrap64 (a2 + 1)))) t253 t254) else (majordomolaw08_GraphFewer.j1 kj5 a0 l1 a2 t253 t254)) = some r := by rw [if_neg (show ¬ (false = true) by decide)] at H; exact H
        clear H
        have H := H1
        clear H1
        have HC12 := Aside0.mk H
        clear H
        go_upto_if 41 with (fail)
        go_cut [2] (fun v2 wc => ∃ (kq : Nat) (x2_11 : Int), v2 = .int .i64 x2_11 ∧ Aside0 (majordomolaw08_GraphFewer.j1 kq a0 l1 x2_11 t253 t254 = some r) ∧ Aside0 (kq ≤ kj5) ∧ Aside0 (Kd.Q (Kd.int .i64) 3 wc w.heap.size (fun _ => True) v257 t253) ∧ Aside0 (Below w.heap.size w wc))
        case first =>
          have H := HC12.out
          clear HC12
          by_cases c13 : a2 < 0
          · rw [if_pos c13] at H
            have c13b0 : decide (a2 < 0) = true := decide_eq_true c13
            clear c13
            (first | rw [c13b0] | (simp only [i64_w, i32_w]; rw [c13b0]) | skip)
            have H' := Aside0.mk H
            clear H
            go_wp2
            go_meet
            case rel => exact ⟨_, (wrap64 (-(wrap64 (a2 + 1)))), (by first | rfl | (simp; done) | (simp [*]; done)), H', ⟨by have := HJ5.out; first | omega | exact Nat.le_refl _⟩, ⟨by (with_reducible repeat (first | apply Kd.Q_alloc | apply Kd.Q_drewN | apply Kd.Q_drew)); exact HO_9.out⟩, ⟨by repeat (first | (with_reducible first | exact HB.out | apply below_alloc | apply pw_below_drewN | apply below_drew1) | exact HB.out)⟩⟩
          · rw [if_neg c13] at H
            have c13b0 : decide (a2 < 0) = false := decide_eq_false c13
            clear c13
            (first | rw [c13b0] | (simp only [i64_w, i32_w]; rw [c13b0]) | skip)
            have H' := Aside0.mk H
            clear H
            go_wp2
            go_meet
            case rel => exact ⟨_, (a2), (by first | rfl | (simp; done) | (simp [*]; done)), H', ⟨by have := HJ5.out; first | omega | exact Nat.le_refl _⟩, ⟨by (with_reducible repeat (first | apply Kd.Q_alloc | apply Kd.Q_drewN | apply Kd.Q_drew)); exact HO_9.out⟩, ⟨by repeat (first | (with_reducible first | exact HB.out | apply below_alloc | apply pw_below_drewN | apply below_drew1) | exact HB.out)⟩⟩
        case rest =>
          clear HC12
          try clear c1
          try clear p2
          try clear p6
          try clear c7
          try clear c8
          try clear c9
          try clear c10
          try clear c10b0
          try clear c10b1
          try clear c11
          try clear c13
          try clear c13b0
          try clear p2
          obtain ⟨kq, x2_11, rfl, HA, HJ11, HO_9, HB⟩ := hcut
          cases kq with
          | zero => exact absurd HA.out (by simp [majordomolaw08_GraphFewer.j1])
          | succ kj11 =>
            have H := HA.out
            clear HA
            simp only [majordomolaw08_GraphFewer.j1] at H
            by_cases c14 : (l1.length : Int) = 0
            · rw [if_pos c14] at H
              exact absurd H (by simp)
            · rw [if_neg c14] at H
              have c14b0 : ((l1.length : Int) == 0) = false := beq_eq_false_iff_ne.mpr c14
              have c14b1 : ((l1.length : Int) != 0) = true := bne_iff_ne.mpr c14
              have c14b2 : ¬ (l1 = []) := fun h_ => c14 (by rw [h_]; rfl)
              obtain ⟨y259, hy259⟩ : ∃ y_ : List (S32), y_ = (([] : List (S32))) := ⟨_, rfl⟩
              replace H : (if 0 ≤ (Int.tmod x2_11 (l1.length : Int)) then (if (Int.tmod x2_11 (l1.length : Int)) ≤ (l1.length : Int) then ((some (l1.take ((Int.tmod x2_11 (l1.length : Int)) : Int).toNat : List (S32))).bind fun y262 => (if y259.length + y262.length < 5864062014805 then ((some (y259 ++ y262 : List (S32))).bind fun y266 => (if 0 ≤ (wrap64 ((Int.tmod x2_11 (l1.length : Int)) + 1)) then (if (wrap64 ((Int.tmod x2_11 (l1.length : Int)) + 1)) ≤ (l1.length : Int) then ((some (l1.drop ((wrap64 ((Int.tmod x2_11 (l1.length : Int)) + 1)) : Int).toNat : List (S32))).bind fun y269 => (if y266.length + y269.length < 5864062014805 then ((graph_Order.f kj11 a0 (y266 ++ y269)).bind fun bt276 => (if t254 = 0 then (some (bt276.2.2 == 0)) else (majordomolaw08_GraphFewer.l0 kj11 a0 t253 (([] : List (S32))) 0))) else (none))) else (none)) else (none))) else (none))) else (none)) else (none)) = some r := by first | (rw [hy259]; with_reducible exact H) | (have H2_ := (Option.bind_some _ _).symm.trans H; rw [hy259]; with_reducible exact H2_) | (have H2_ := (Option.bind_some _ _).symm.trans H; with_reducible exact H2_) | with_reducible exact H | (rw [hy259]; exact H) | exact H
              have Ny259 := Aside0.mk hy259
              clear hy259
              obtain ⟨ji15, hji15⟩ : ∃ j_ : Int, (Int.tmod x2_11 (l1.length : Int)) = j_ := ⟨_, rfl⟩
              replace H : (if 0 ≤ (ji15) then (if (ji15) ≤ (l1.length : Int) then ((some (l1.take ((ji15) : Int).toNat : List (S32))).bind fun y262 => (if y259.length + y262.length < 5864062014805 then ((some (y259 ++ y262 : List (S32))).bind fun y266 => (if 0 ≤ (wrap64 ((ji15) + 1)) then (if (wrap64 ((ji15) + 1)) ≤ (l1.length : Int) then ((some (l1.drop ((wrap64 ((ji15) + 1)) : Int).toNat : List (S32))).bind fun y269 => (if y266.length + y269.length < 5864062014805 then ((graph_Order.f kj11 a0 (y266 ++ y269)).bind fun bt276 => (if t254 = 0 then (some (bt276.2.2 == 0)) else (majordomolaw08_GraphFewer.l0 kj11 a0 t253 (([] : List (S32))) 0))) else (none))) else (none)) else (none))) else (none))) else (none)) else (none)) = some r := by first | (rw [hji15] at H; exact H) | (simp only [hji15] at H ⊢; exact H)
              by_cases c16 : 0 ≤ (ji15)
              · rw [if_pos c16] at H
                have c16b0 := eq_true c16
                have c16b1 : decide (0 ≤ (ji15)) = true := decide_eq_true c16
                clear c16
                by_cases c17 : (ji15) ≤ (l1.length : Int)
                · rw [if_pos c17] at H
                  have c17b0 := eq_true c17
                  have c17b1 : decide ((ji15) ≤ (l1.length : Int)) = true := decide_eq_true c17
                  clear c17
                  obtain ⟨y262, hy262⟩ : ∃ y_ : List (S32), y_ = (l1.take ((ji15) : Int).toNat) := ⟨_, rfl⟩
                  replace H : (if y259.length + y262.length < 5864062014805 then ((some (y259 ++ y262 : List (S32))).bind fun y266 => (if 0 ≤ (wrap64 ((ji15) + 1)) then (if (wrap64 ((ji15) + 1)) ≤ (l1.length : Int) then ((some (l1.drop ((wrap64 ((ji15) + 1)) : Int).toNat : List (S32))).bind fun y269 => (if y266.length + y269.length < 5864062014805 then ((graph_Order.f kj11 a0 (y266 ++ y269)).bind fun bt276 => (if t254 = 0 then (some (bt276.2.2 == 0)) else (majordomolaw08_GraphFewer.l0 kj11 a0 t253 (([] : List (S32))) 0))) else (none))) else (none)) else (none))) else (none)) = some r := by first | (rw [hy262]; with_reducible exact H) | (have H2_ := (Option.bind_some _ _).symm.trans H; rw [hy262]; with_reducible exact H2_) | (have H2_ := (Option.bind_some _ _).symm.trans H; with_reducible exact H2_) | with_reducible exact H | (rw [hy262]; exact H) | exact H
                  have Ny262 := Aside0.mk hy262
                  clear hy262
                  by_cases c18 : y259.length + y262.length < 5864062014805
                  · rw [if_pos c18] at H
                    have LMc18 := Aside0.mk c18
                    clear c18
                    obtain ⟨y266, hy266⟩ : ∃ y_ : List (S32), y_ = (y259 ++ y262) := ⟨_, rfl⟩
                    replace H : (if 0 ≤ (wrap64 ((ji15) + 1)) then (if (wrap64 ((ji15) + 1)) ≤ (l1.length : Int) then ((some (l1.drop ((wrap64 ((ji15) + 1)) : Int).toNat : List (S32))).bind fun y269 => (if y266.length + y269.length < 5864062014805 then ((graph_Order.f kj11 a0 (y266 ++ y269)).bind fun bt276 => (if t254 = 0 then (some (bt276.2.2 == 0)) else (majordomolaw08_GraphFewer.l0 kj11 a0 t253 (([] : List (S32))) 0))) else (none))) else (none)) else (none)) = some r := by first | (rw [hy266]; with_reducible exact H) | (have H2_ := (Option.bind_some _ _).symm.trans H; rw [hy266]; with_reducible exact H2_) | (have H2_ := (Option.bind_some _ _).symm.trans H; with_reducible exact H2_) | with_reducible exact H | (rw [hy266]; exact H) | exact H
                    have Ny266 := Aside0.mk hy266
                    clear hy266
                    obtain ⟨ji19, hji19⟩ : ∃ j_ : Int, (wrap64 ((ji15) + 1)) = j_ := ⟨_, rfl⟩
                    replace H : (if 0 ≤ (ji19) then (if (ji19) ≤ (l1.length : Int) then ((some (l1.drop ((ji19) : Int).toNat : List (S32))).bind fun y269 => (if y266.length + y269.length < 5864062014805 then ((graph_Order.f kj11 a0 (y266 ++ y269)).bind fun bt276 => (if t254 = 0 then (some (bt276.2.2 == 0)) else (majordomolaw08_GraphFewer.l0 kj11 a0 t253 (([] : List (S32))) 0))) else (none))) else (none)) else (none)) = some r := by first | (rw [hji19] at H; exact H) | (simp only [hji19] at H ⊢; exact H)
                    have hji19w : (IntKind.i64.wrap ((ji15) + 1)) = ji19 := (i64_w _).trans hji19
                    by_cases c20 : 0 ≤ (ji19)
                    · rw [if_pos c20] at H
                      have c20b0 := eq_true c20
                      have c20b1 : decide (0 ≤ (ji19)) = true := decide_eq_true c20
                      clear c20
                      by_cases c21 : (ji19) ≤ (l1.length : Int)
                      · rw [if_pos c21] at H
                        have c21b0 := eq_true c21
                        have c21b1 : decide ((ji19) ≤ (l1.length : Int)) = true := decide_eq_true c21
                        clear c21
                        obtain ⟨y269, hy269⟩ : ∃ y_ : List (S32), y_ = (l1.drop ((ji19) : Int).toNat) := ⟨_, rfl⟩
                        replace H : (if y266.length + y269.length < 5864062014805 then ((graph_Order.f kj11 a0 (y266 ++ y269)).bind fun bt276 => (if t254 = 0 then (some (bt276.2.2 == 0)) else (majordomolaw08_GraphFewer.l0 kj11 a0 t253 (([] : List (S32))) 0))) else (none)) = some r := by first | (rw [hy269]; with_reducible exact H) | (have H2_ := (Option.bind_some _ _).symm.trans H; rw [hy269]; with_reducible exact H2_) | (have H2_ := (Option.bind_some _ _).symm.trans H; with_reducible exact H2_) | with_reducible exact H | (rw [hy269]; exact H) | exact H
                        have Ny269 := Aside0.mk hy269
                        clear hy269
                        by_cases c22 : y266.length + y269.length < 5864062014805
                        · rw [if_pos c22] at H
                          have LMc22 := Aside0.mk c22
                          clear c22
                          obtain ⟨y273, hy273⟩ : ∃ y_ : List (S32), y_ = (y266 ++ y269) := ⟨_, rfl⟩
                          replace H : ((graph_Order.f kj11 a0 y273).bind fun bt276 => (if t254 = 0 then (some (bt276.2.2 == 0)) else (majordomolaw08_GraphFewer.l0 kj11 a0 t253 (([] : List (S32))) 0))) = some r := by first | (rw [hy273]; with_reducible exact H) | (have H2_ := (Option.bind_some _ _).symm.trans H; rw [hy273]; with_reducible exact H2_) | (have H2_ := (Option.bind_some _ _).symm.trans H; with_reducible exact H2_) | with_reducible exact H | (rw [hy273]; exact H) | exact H
                          have Ny273 := Aside0.mk hy273
                          clear hy273
                          replace H := Option.bind_eq_some_iff.mp H
                          obtain ⟨⟨t276, t277, t278⟩, A230, H⟩ := H
                          replace H : (if t254 = 0 then (some (t278 == 0)) else (majordomolaw08_GraphFewer.l0 kj11 a0 t253 (([] : List (S32))) 0)) = some r := H
                          have A23 := Aside0.mk A230
                          clear A230
                          by_cases c24 : t254 = 0
                          · rw [if_pos c24] at H
                            have c24b0 : (t254 == 0) = true := beq_iff_eq.mpr c24
                            have c24b1 : (t254 != 0) = false := bne_eq_false_iff_eq.mpr c24
                            clear c24
                            obtain rfl := Option.some.inj H
                            try go_wp2
                            have n0_ := Aside0.mk (Kd.Q_drew HO_9.out)
                            have n1_ := Aside0.mk (below_drew1 HB.out)
                            clear HO_9
                            clear HB
                            have HO_9 := n0_
                            have HB := n1_
                            clear n0_ n1_
                            have q26 : ((ji15) : Int) ≤ ((l1.length : Int) : Int) := of_decide_eq_true (by first | (with_reducible assumption) | assumption)
                            obtain ⟨i026, hi026, _, hsz26, _⟩ := info_parts info32
                            have hroom26 : l1.length ≤ c1 := HC1.out
                            have hC26 : Kd.C k32 _ A1 l1.length l1 := HR1.out
                            have hcut26 := cut_to (P := Try.prog) 22 32 .i64 Try.underlying22 hi026 A1 l1.length c1 (ji15) (of_decide_eq_true (by first | (with_reducible assumption) | assumption)) q26 hroom26
                            have hr26 := Kd.C_take (m := ((ji15) : Int).toNat) hC26 (by omega)
                            have hy26 : y262.length = ((ji15) : Int).toNat := (by rw [Ny262.out, List.length_take]; omega)
                            rw [← Ny262.out] at hr26
                            rw [← hy26] at hcut26
                            have HR265 := Aside0.mk hr26
                            have HC265 := Aside0.mk (show y262.length ≤ c1 from by omega)
                            clear hr26 hC26 hroom26 hi026 hsz26
                            have KY26 := Aside0.mk hy26
                            clear hy26
                            replace q26 := eq_true q26
                            have q27 : ((ji19) : Int) ≤ ((l1.length : Int) : Int) := of_decide_eq_true (by first | (with_reducible assumption) | assumption)
                            obtain ⟨i027, hi027, _, hsz27, _⟩ := info_parts info32
                            have hroom27 : l1.length ≤ c1 := HC1.out
                            have hC27 : Kd.C k32 _ A1 l1.length l1 := HR1.out
                            have q027 : (0 : Int) ≤ ((ji19) : Int) := of_decide_eq_true (by first | (with_reducible assumption) | assumption)
                            have hcut27 := cut_from (P := Try.prog) 22 32 .i64 Try.underlying22 hi027 3 hsz27 A1 l1.length c1 (ji19) q027 q27
                            have hr27 := Kd.C_drop (m := ((ji19) : Int).toNat) (c := c1) hC27 (by omega) hroom27
                            obtain ⟨A27, hA27⟩ : ∃ Ax_, Ax_ = (if c1 = ((ji19) : Int).toNat then A1 else (A1 : Option Addr).map (·.add (((ji19) : Int).toNat * 3))) := ⟨_, rfl⟩
                            obtain ⟨c27, hc27⟩ : ∃ cx_, cx_ = c1 - ((ji19) : Int).toNat := ⟨_, rfl⟩
                            have hy27 : y269.length = l1.length - ((ji19) : Int).toNat := (by rw [Ny269.out, List.length_drop] <;> omega)
                            rw [show (l1).drop ((ji19) : Int).toNat = y269 from Ny269.out.symm] at hr27
                            replace hr27 : Kd.C k32 _ A27 y269.length y269 := (by rw [hA27]; exact hr27)
                            rw [← hy27, ← hA27, ← hc27] at hcut27
                            have HR272 := Aside0.mk hr27
                            have HC272 := Aside0.mk (show y269.length ≤ c27 from by rw [hy27, hc27]; exact Nat.sub_le_sub_right hroom27 _)
                            clear hr27 hC27 hroom27 hi027 hsz27 hc27
                            have KY27 := Aside0.mk hy27
                            have KA27 := Aside0.mk hA27
                            clear hy27 hA27
                            replace q27 := eq_true q27
                            refine start_ (n := 11) (S := fun w' => True) (ds := []) #[false, false, false, false, false, false, false, false, false, false, false] (by kernel_rfl) rfl rfl trivial (fun hHeld => ?_); refine with_tabW majordomolaw08_GraphFewer.tab8 majordomolaw08_GraphFewer.bits8 (fun HT_ HW_ => ?_)
                            generalize wc.drew = w25 at HO_9 HB HR265 HR272 hHeld ⊢
                            refine pure_ (i := 1) (N := some 50) (v := ?_) (a' := ?_) #[false, true, false, false, false, false, false, false, false, false, false] rfl rfl (any_of HT_.out (by kernel_rfl)) (fun _ _ _ h => h) (Or.inl ⟨by rfl, ?_⟩) ?_ ?_
                            rotate_left
                            · intro w'
                              go_simp
                              with_reducible rfl
                            rotate_left
                            · simp only [Act.put, List.setIfInBounds_toArray, List.set_cons_zero, List.set_cons_succ, i64_w, i32_w]
                              rfl
                            refine pure_ (i := 2) (N := some 51) (v := ?_) (a' := ?_) #[false, true, true, false, false, false, false, false, false, false, false] rfl rfl (any_of HT_.out (by kernel_rfl)) (fun _ _ _ h => h) (Or.inl ⟨by rfl, ?_⟩) ?_ ?_
                            rotate_left
                            · intro w'
                              go_simp
                              with_reducible rfl
                            rotate_left
                            · simp only [Act.put, List.setIfInBounds_toArray, List.set_cons_zero, List.set_cons_succ, i64_w, i32_w]
                              rfl
                            refine pure_ (i := 3) (N := some 52) (v := ?_) (a' := ?_) #[false, true, true, true, false, false, false, false, false, false, false] rfl rfl (any_of HT_.out (by kernel_rfl)) (fun _ _ _ h => h) (Or.inl ⟨by rfl, ?_⟩) ?_ ?_
                            rotate_left
                            · intro w'
                              go_simp
                              with_reducible rfl
                            rotate_left
                            · simp only [Act.put, List.setIfInBounds_toArray, List.set_cons_zero, List.set_cons_succ, i64_w, i32_w]
                              rfl
                            refine pure_ (i := 5) (N := some 54) (v := ?_) (a' := ?_) #[false, true, true, true, false, true, false, false, false, false, false] rfl rfl (any_of HT_.out (by kernel_rfl)) (fun _ _ _ h => h) (Or.inl ⟨by rfl, ?_⟩) ?_ ?_
                            rotate_left
                            · intro w'
                              go_simp
                              with_reducible rfl
                            rotate_left
                            · simp only [Act.put, List.setIfInBounds_toArray, List.set_cons_zero, List.set_cons_succ, i64_w, i32_w]
                              rfl
                            refine pure_ (i := 6) (N := some 55) (v := ?_) (a' := ?_) #[false, true, true, true, false, true, true, false, false, false, false] rfl rfl (any_of HT_.out (by kernel_rfl)) (fun _ _ _ h => h) (Or.inl ⟨by rfl, ?_⟩) ?_ ?_
                            rotate_left
                            · intro w'
                              go_simp
                              with_reducible rfl
                            rotate_left
                            · simp only [Act.put, List.setIfInBounds_toArray, List.set_cons_zero, List.set_cons_succ, i64_w, i32_w]
                              rfl
                            refine pure_ (i := 7) (N := some 56) (v := ?_) (a' := ?_) #[false, true, true, true, false, true, true, true, false, false, false] rfl rfl (any_of HT_.out (by kernel_rfl)) (fun _ _ _ h => h) (Or.inl ⟨by rfl, ?_⟩) ?_ ?_
                            rotate_left
                            · intro w'
                              go_simp
                              with_reducible rfl
                            rotate_left
                            · simp only [Act.put, List.setIfInBounds_toArray, List.set_cons_zero, List.set_cons_succ, i64_w, i32_w]
                              rfl
                            refine pure_ (i := 8) (N := some 57) (v := ?_) (a' := ?_) #[false, true, true, true, false, true, true, true, true, false, false] rfl rfl (any_of HT_.out (by kernel_rfl)) (fun _ _ _ h => h) (Or.inl ⟨by rfl, ?_⟩) ?_ ?_
                            rotate_left
                            · intro w'
                              go_simp
                              with_reducible rfl
                            rotate_left
                            · simp only [Act.put, List.setIfInBounds_toArray, List.set_cons_zero, List.set_cons_succ, i64_w, i32_w]
                              rfl
                            refine one_ (i := 0) (N := some 49) #[true, true, true, true, false, true, true, true, true, false, false] rfl rfl (one_of HT_.out (by kernel_rfl)) (by decide) (fun K hK => ?_)
                            refine Kd.R_lit_step k32 _ 32 ?hg (N := 49) ?hd (xs := ([] : List (S32))) (inner := []) (ok := fun _ => True) (okp := fun _ => True) ?hr ?hp (fun _ hk => hk) trivial (Below.refl _ _) (Nat.le_refl _) (by simp) ?_; (case hd => rfl); (case hg => rfl); (case hr => first | (go_simp; done) | (go_simp; rfl)); (case hp => exact (Reps.none _ _))
                            intro v260 w28 ho29 hb hg_ hnew_
                            clear hg_ hnew_
                            (first | rw [← Ny259.out] at ho29 | (simp only [Int.reduceToNat] at ho29; rw [← Ny259.out] at ho29))
                            have n0_ := Aside0.mk (Kd.Q_below (by (with_reducible repeat (first | apply Kd.Q_alloc | apply Kd.Q_drewN | apply Kd.Q_drew)); exact HO_9.out) hb)
                            have n1_ := Aside0.mk (Kd.R_lower ho29 (below_size (by repeat (first | (with_reducible first | exact HB.out | apply below_alloc | apply pw_below_drewN | apply below_drew1) | exact HB.out))))
                            have n2_ := Aside0.mk (below_step (by repeat (first | (with_reducible first | exact HB.out | apply below_alloc | apply pw_below_drewN | apply below_drew1) | exact HB.out)) hb)
                            clear HO_9
                            clear HB
                            have HO_9 := n0_
                            have HO261 := n1_
                            have HB := n2_
                            clear n0_ n1_ n2_
                            clear hb ho29
                            refine hK.out _ _ trivial (fun hHeld => ?_)
                            clear hK K
                            refine norm_ (a' := ?_) ?_ ?_
                            rotate_left
                            · show Act.put _ (some 49) _ = _
                              simp only [Act.put, List.setIfInBounds_toArray, List.set_cons_zero, List.set_cons_succ, i64_w, i32_w]
                              rfl
                            refine one_ (i := 4) (N := some 53) #[true, true, true, true, true, true, true, true, true, false, false] rfl rfl (one_of HT_.out (by kernel_rfl)) (by decide) (fun K hK => ?_)
                            refine Kd.R_append_rows_step k32 (w0 := w) w.heap.size (by rfl) (.tmp 49) (.tmp 52) 22 32 (.agg #[(.int .i64 0), (.int .i64 0), (.bool false)]) 24 rfl Try.underlying22 info32 rfl (by decide) (by omega) v260 y259 y262 _ _ _ (fun _ => True) (fun _ => False) rfl rfl ?aO ?aR (fun _ _ h => h) (fun _ h => h.elim) ?aF ?aB ?aS ?aL ?_
                            (case aR => repeat (first | exact (Kd.C_below HR265.out HB.out) | (with_reducible refine Kd.C_alloc ?_ _) | (with_reducible refine Kd.C_drewN ?_ _) | (with_reducible refine Kd.C_drew ?_)))
                            (case aB => exact (by repeat (first | (with_reducible first | exact HB.out | apply below_alloc | apply pw_below_drewN | apply below_drew1) | exact HB.out)))
                            (case aF => exact (fun _ _ => trivial))
                            (case aO => exact (by (with_reducible repeat (first | apply Kd.R_alloc | apply Kd.R_drewN | apply Kd.R_drew)); exact HO261.out))
                            (case aS => exact (below_size (by repeat (first | (with_reducible first | exact HB.out | apply below_alloc | apply pw_below_drewN | apply below_drew1) | exact HB.out))))
                            (case aL => have := LMc18.out; omega)
                            intro v267 w30 ho hb hg hat
                            rw [← Ny266.out] at ho
                            have n0_ := Aside0.mk (Kd.Q_over' (by (with_reducible repeat (first | apply Kd.Q_alloc | apply Kd.Q_drewN | apply Kd.Q_drew)); exact HO_9.out) (Kd.R_typed (by (with_reducible repeat (first | apply Kd.R_alloc | apply Kd.R_drewN | apply Kd.R_drew)); exact HO261.out)) (by decide) hg)
                            have n1_ := Aside0.mk (hb)
                            have n2_ := Aside0.mk (ho)
                            clear HO_9
                            clear HB
                            clear HO261
                            have HO_9 := n0_
                            have HB := n1_
                            have HO268 := n2_
                            clear n0_ n1_ n2_
                            clear ho hb hg hat
                            refine hK.out _ _ trivial (fun hHeld => ?_)
                            clear hK K
                            refine norm_ (a' := ?_) ?_ ?_
                            rotate_left
                            · show Act.put _ (some 53) _ = _
                              simp only [Act.put, List.setIfInBounds_toArray, List.set_cons_zero, List.set_cons_succ, i64_w, i32_w]
                              rfl
                            refine one_ (i := 9) (N := some 58) #[true, true, true, true, true, true, true, true, true, true, false] rfl rfl (one_of HT_.out (by kernel_rfl)) (by decide) (fun K hK => ?_)
                            refine Kd.R_append_rows_step k32 (w0 := w) w.heap.size (by rfl) (.tmp 53) (.tmp 57) 22 32 (.agg #[(.int .i64 0), (.int .i64 0), (.bool false)]) 24 rfl Try.underlying22 info32 rfl (by decide) (by omega) v267 y266 y269 _ _ _ (fun _ => True) (fun _ => False) rfl rfl ?aO ?aR (fun _ _ h => h) (fun _ h => h.elim) ?aF ?aB ?aS ?aL ?_
                            (case aR => repeat (first | exact (Kd.C_below HR272.out HB.out) | (with_reducible refine Kd.C_alloc ?_ _) | (with_reducible refine Kd.C_drewN ?_ _) | (with_reducible refine Kd.C_drew ?_)))
                            (case aB => exact (by repeat (first | (with_reducible first | exact HB.out | apply below_alloc | apply pw_below_drewN | apply below_drew1) | exact HB.out)))
                            (case aF => exact (fun _ _ => trivial))
                            (case aO => exact (by (with_reducible repeat (first | apply Kd.R_alloc | apply Kd.R_drewN | apply Kd.R_drew)); exact HO268.out))
                            (case aS => exact (below_size (by repeat (first | (with_reducible first | exact HB.out | apply below_alloc | apply pw_below_drewN | apply below_drew1) | exact HB.out))))
                            (case aL => have := LMc22.out; omega)
                            intro v274 w31 ho hb hg hat
                            rw [← Ny273.out] at ho
                            have n0_ := Aside0.mk (Kd.Q_over' (by (with_reducible repeat (first | apply Kd.Q_alloc | apply Kd.Q_drewN | apply Kd.Q_drew)); exact HO_9.out) (Kd.R_typed (by (with_reducible repeat (first | apply Kd.R_alloc | apply Kd.R_drewN | apply Kd.R_drew)); exact HO268.out)) (by decide) hg)
                            have n1_ := Aside0.mk (hb)
                            have n2_ := Aside0.mk (ho)
                            clear HO_9
                            clear HB
                            clear HO268
                            have HO_9 := n0_
                            have HB := n1_
                            have HO275 := n2_
                            clear n0_ n1_ n2_
                            clear ho hb hg hat
                            refine hK.out _ _ trivial (fun hHeld => ?_)
                            clear hK K
                            refine norm_ (a' := ?_) ?_ ?_
                            rotate_left
                            · show Act.put _ (some 58) _ = _
                              simp only [Act.put, List.setIfInBounds_toArray, List.set_cons_zero, List.set_cons_succ, i64_w, i32_w]
                              rfl
                            refine pure_ (i := 10) (N := some 11) (v := ?_) (a' := ?_) #[true, true, true, true, true, true, true, true, true, true, true] rfl rfl (any_of HT_.out (by kernel_rfl)) (fun _ _ _ h => h) (Or.inl ⟨by rfl, ?_⟩) ?_ ?_
                            rotate_left
                            · intro w'
                              go_simp
                              with_reducible rfl
                            rotate_left
                            · simp only [Act.put, List.setIfInBounds_toArray, List.set_cons_zero, List.set_cons_succ, i64_w, i32_w]
                              rfl
                            refine done_ (done_of HT_.out (by kernel_rfl)) ?_
                            obtain ⟨Ao32, co32, eo32⟩ := Kd.R_slice HO275.out
                            subst eo32
                            try go_wp2_with (first | ((with_reducible refine gate_callee (f := 9) rfl ?_); refine goesL_ (some 62) rfl rfl Try.func9 (by kernel_rfl) rfl #[.int .i64 a0, .slice Ao32 y273.length co32] rfl (by (try simp only [List.map_toArray, List.map_cons, List.map_nil]); first | done | rfl | (simp only [List.length_drop, List.length_take]; rfl)) ?_; (with_reducible refine (graph_Order.calls kj11 a0 _ _ y273 t276 t277 t278 _ ?side1 ?side2 A23.out).mono ?_); (case side1 => repeat (first | exact (Kd.R_reads' HO275.out).2.2 | (with_reducible refine Kd.C_alloc ?_ _) | (with_reducible refine Kd.C_drewN ?_ _) | (with_reducible refine Kd.C_drew ?_))); (case side2 => exact (Kd.R_reads' HO275.out).2.1); rintro e w33 ⟨v279, v281, rfl, ho0, ho1, hb⟩; refine ⟨_, rfl, ?_⟩; have n0_ := Aside0.mk (Kd.Q_mono (Kd.Q_told (Kd.Q_told (Kd.Q_old (by (with_reducible repeat (first | apply Kd.Q_alloc | apply Kd.Q_drewN | apply Kd.Q_drew)); exact HO_9.out) hb) (Kd.R_base ho0)) (Kd.Q_base ho1)) (fun _ h_ => h_.1)); have n1_ := Aside0.mk (Kd.R_below (by (with_reducible repeat (first | apply Kd.R_alloc | apply Kd.R_drewN | apply Kd.R_drew)); exact HO275.out) hb); have n2_ := Aside0.mk (Kd.R_lower (Kd.R_new' ho0 (Kd.Q_lt (by (with_reducible repeat (first | apply Kd.Q_alloc | apply Kd.Q_drewN | apply Kd.Q_drew)); exact HO_9.out))) (below_size (by repeat (first | (with_reducible first | exact HB.out | apply below_alloc | apply pw_below_drewN | apply below_drew1) | exact HB.out)))); have n3_ := Aside0.mk (Kd.Q_lower (Kd.Q_new' ho1 (Kd.Q_lt (by (with_reducible repeat (first | apply Kd.Q_alloc | apply Kd.Q_drewN | apply Kd.Q_drew)); exact HO_9.out))) (below_size (by repeat (first | (with_reducible first | exact HB.out | apply below_alloc | apply pw_below_drewN | apply below_drew1) | exact HB.out)))); have n4_ := Aside0.mk (below_step (by repeat (first | (with_reducible first | exact HB.out | apply below_alloc | apply pw_below_drewN | apply below_drew1) | exact HB.out)) hb); clear HO_9; clear HO275; clear HB; have HO_9 := n0_; have HO275 := n1_; have HO280 := n2_; have HO282 := n3_; have HB := n4_; clear n0_ n1_ n2_ n3_ n4_; (try clear hb); (try clear hb2); (try clear hk); (try clear hi); (try clear ho0); (try clear ho1)))
                            go_ret
                            exact ⟨by first | rfl | (simp [errW_none, errW_some] <;> rfl) | (simp only [← hji15, ← hji19]; first | rfl | (simp [errW_none, errW_some] <;> rfl)) | (simp [*, errW_none, errW_some] <;> rfl), by repeat (first | (with_reducible first | exact HB.out | apply below_alloc | apply pw_below_drewN | apply below_drew1) | exact HB.out)⟩
                          · rw [if_neg c24] at H
                            have c24b0 : (t254 == 0) = false := beq_eq_false_iff_ne.mpr c24
                            have c24b1 : (t254 != 0) = true := bne_iff_ne.mpr c24
                            obtain ⟨y283, hy283⟩ : ∃ y_ : List (S32), y_ = (([] : List (S32))) := ⟨_, rfl⟩
                            replace H : (majordomolaw08_GraphFewer.l0 kj11 a0 t253 y283 0) = some r := by first | (rw [hy283]; with_reducible exact H) | (have H2_ := (Option.bind_some _ _).symm.trans H; rw [hy283]; with_reducible exact H2_) | (have H2_ := (Option.bind_some _ _).symm.trans H; with_reducible exact H2_) | with_reducible exact H | (rw [hy283]; exact H) | exact H
                            have Ny283 := Aside0.mk hy283
                            clear hy283
                            have H' := Aside0.mk H
                            clear H
                            try go_wp2
                            have n0_ := Aside0.mk (Kd.Q_drew HO_9.out)
                            have n1_ := Aside0.mk (below_drew1 HB.out)
                            clear HO_9
                            clear HB
                            have HO_9 := n0_
                            have HB := n1_
                            clear n0_ n1_
                            have q35 : ((ji15) : Int) ≤ ((l1.length : Int) : Int) := of_decide_eq_true (by first | (with_reducible assumption) | assumption)
                            obtain ⟨i035, hi035, _, hsz35, _⟩ := info_parts info32
                            have hroom35 : l1.length ≤ c1 := HC1.out
                            have hC35 : Kd.C k32 _ A1 l1.length l1 := HR1.out
                            have hcut35 := cut_to (P := Try.prog) 22 32 .i64 Try.underlying22 hi035 A1 l1.length c1 (ji15) (of_decide_eq_true (by first | (with_reducible assumption) | assumption)) q35 hroom35
                            have hr35 := Kd.C_take (m := ((ji15) : Int).toNat) hC35 (by omega)
                            have hy35 : y262.length = ((ji15) : Int).toNat := (by rw [Ny262.out, List.length_take]; omega)
                            rw [← Ny262.out] at hr35
                            rw [← hy35] at hcut35
                            have HR265 := Aside0.mk hr35
                            have HC265 := Aside0.mk (show y262.length ≤ c1 from by omega)
                            clear hr35 hC35 hroom35 hi035 hsz35
                            have KY35 := Aside0.mk hy35
                            clear hy35
                            replace q35 := eq_true q35
                            have q36 : ((ji19) : Int) ≤ ((l1.length : Int) : Int) := of_decide_eq_true (by first | (with_reducible assumption) | assumption)
                            obtain ⟨i036, hi036, _, hsz36, _⟩ := info_parts info32
                            have hroom36 : l1.length ≤ c1 := HC1.out
                            have hC36 : Kd.C k32 _ A1 l1.length l1 := HR1.out
                            have q036 : (0 : Int) ≤ ((ji19) : Int) := of_decide_eq_true (by first | (with_reducible assumption) | assumption)
                            have hcut36 := cut_from (P := Try.prog) 22 32 .i64 Try.underlying22 hi036 3 hsz36 A1 l1.length c1 (ji19) q036 q36
                            have hr36 := Kd.C_drop (m := ((ji19) : Int).toNat) (c := c1) hC36 (by omega) hroom36
                            obtain ⟨A36, hA36⟩ : ∃ Ax_, Ax_ = (if c1 = ((ji19) : Int).toNat then A1 else (A1 : Option Addr).map (·.add (((ji19) : Int).toNat * 3))) := ⟨_, rfl⟩
                            obtain ⟨c36, hc36⟩ : ∃ cx_, cx_ = c1 - ((ji19) : Int).toNat := ⟨_, rfl⟩
                            have hy36 : y269.length = l1.length - ((ji19) : Int).toNat := (by rw [Ny269.out, List.length_drop] <;> omega)
                            rw [show (l1).drop ((ji19) : Int).toNat = y269 from Ny269.out.symm] at hr36
                            replace hr36 : Kd.C k32 _ A36 y269.length y269 := (by rw [hA36]; exact hr36)
                            rw [← hy36, ← hA36, ← hc36] at hcut36
                            have HR272 := Aside0.mk hr36
                            have HC272 := Aside0.mk (show y269.length ≤ c36 from by rw [hy36, hc36]; exact Nat.sub_le_sub_right hroom36 _)
                            clear hr36 hC36 hroom36 hi036 hsz36 hc36
                            have KY36 := Aside0.mk hy36
                            have KA36 := Aside0.mk hA36
                            clear hy36 hA36
                            replace q36 := eq_true q36
                            refine start_ (n := 11) (S := fun w' => True) (ds := []) #[false, false, false, false, false, false, false, false, false, false, false] (by kernel_rfl) rfl rfl trivial (fun hHeld => ?_); refine with_tabW majordomolaw08_GraphFewer.tab8 majordomolaw08_GraphFewer.bits8 (fun HT_ HW_ => ?_)
                            generalize wc.drew = w34 at HO_9 HB HR265 HR272 hHeld ⊢
                            refine pure_ (i := 1) (N := some 50) (v := ?_) (a' := ?_) #[false, true, false, false, false, false, false, false, false, false, false] rfl rfl (any_of HT_.out (by kernel_rfl)) (fun _ _ _ h => h) (Or.inl ⟨by rfl, ?_⟩) ?_ ?_
                            rotate_left
                            · intro w'
                              go_simp
                              with_reducible rfl
                            rotate_left
                            · simp only [Act.put, List.setIfInBounds_toArray, List.set_cons_zero, List.set_cons_succ, i64_w, i32_w]
                              rfl
                            refine pure_ (i := 2) (N := some 51) (v := ?_) (a' := ?_) #[false, true, true, false, false, false, false, false, false, false, false] rfl rfl (any_of HT_.out (by kernel_rfl)) (fun _ _ _ h => h) (Or.inl ⟨by rfl, ?_⟩) ?_ ?_
                            rotate_left
                            · intro w'
                              go_simp
                              with_reducible rfl
                            rotate_left
                            · simp only [Act.put, List.setIfInBounds_toArray, List.set_cons_zero, List.set_cons_succ, i64_w, i32_w]
                              rfl
                            refine pure_ (i := 3) (N := some 52) (v := ?_) (a' := ?_) #[false, true, true, true, false, false, false, false, false, false, false] rfl rfl (any_of HT_.out (by kernel_rfl)) (fun _ _ _ h => h) (Or.inl ⟨by rfl, ?_⟩) ?_ ?_
                            rotate_left
                            · intro w'
                              go_simp
                              with_reducible rfl
                            rotate_left
                            · simp only [Act.put, List.setIfInBounds_toArray, List.set_cons_zero, List.set_cons_succ, i64_w, i32_w]
                              rfl
                            refine pure_ (i := 5) (N := some 54) (v := ?_) (a' := ?_) #[false, true, true, true, false, true, false, false, false, false, false] rfl rfl (any_of HT_.out (by kernel_rfl)) (fun _ _ _ h => h) (Or.inl ⟨by rfl, ?_⟩) ?_ ?_
                            rotate_left
                            · intro w'
                              go_simp
                              with_reducible rfl
                            rotate_left
                            · simp only [Act.put, List.setIfInBounds_toArray, List.set_cons_zero, List.set_cons_succ, i64_w, i32_w]
                              rfl
                            refine pure_ (i := 6) (N := some 55) (v := ?_) (a' := ?_) #[false, true, true, true, false, true, true, false, false, false, false] rfl rfl (any_of HT_.out (by kernel_rfl)) (fun _ _ _ h => h) (Or.inl ⟨by rfl, ?_⟩) ?_ ?_
                            rotate_left
                            · intro w'
                              go_simp
                              with_reducible rfl
                            rotate_left
                            · simp only [Act.put, List.setIfInBounds_toArray, List.set_cons_zero, List.set_cons_succ, i64_w, i32_w]
                              rfl
                            refine pure_ (i := 7) (N := some 56) (v := ?_) (a' := ?_) #[false, true, true, true, false, true, true, true, false, false, false] rfl rfl (any_of HT_.out (by kernel_rfl)) (fun _ _ _ h => h) (Or.inl ⟨by rfl, ?_⟩) ?_ ?_
                            rotate_left
                            · intro w'
                              go_simp
                              with_reducible rfl
                            rotate_left
                            · simp only [Act.put, List.setIfInBounds_toArray, List.set_cons_zero, List.set_cons_succ, i64_w, i32_w]
                              rfl
                            refine pure_ (i := 8) (N := some 57) (v := ?_) (a' := ?_) #[false, true, true, true, false, true, true, true, true, false, false] rfl rfl (any_of HT_.out (by kernel_rfl)) (fun _ _ _ h => h) (Or.inl ⟨by rfl, ?_⟩) ?_ ?_
                            rotate_left
                            · intro w'
                              go_simp
                              with_reducible rfl
                            rotate_left
                            · simp only [Act.put, List.setIfInBounds_toArray, List.set_cons_zero, List.set_cons_succ, i64_w, i32_w]
                              rfl
                            refine one_ (i := 0) (N := some 49) #[true, true, true, true, false, true, true, true, true, false, false] rfl rfl (one_of HT_.out (by kernel_rfl)) (by decide) (fun K hK => ?_)
                            refine Kd.R_lit_step k32 _ 32 ?hg (N := 49) ?hd (xs := ([] : List (S32))) (inner := []) (ok := fun _ => True) (okp := fun _ => True) ?hr ?hp (fun _ hk => hk) trivial (Below.refl _ _) (Nat.le_refl _) (by simp) ?_; (case hd => rfl); (case hg => rfl); (case hr => first | (go_simp; done) | (go_simp; rfl)); (case hp => exact (Reps.none _ _))
                            intro v260 w37 ho38 hb hg_ hnew_
                            clear hg_ hnew_
                            (first | rw [← Ny259.out] at ho38 | (simp only [Int.reduceToNat] at ho38; rw [← Ny259.out] at ho38))
                            have n0_ := Aside0.mk (Kd.Q_below (by (with_reducible repeat (first | apply Kd.Q_alloc | apply Kd.Q_drewN | apply Kd.Q_drew)); exact HO_9.out) hb)
                            have n1_ := Aside0.mk (Kd.R_lower ho38 (below_size (by repeat (first | (with_reducible first | exact HB.out | apply below_alloc | apply pw_below_drewN | apply below_drew1) | exact HB.out))))
                            have n2_ := Aside0.mk (below_step (by repeat (first | (with_reducible first | exact HB.out | apply below_alloc | apply pw_below_drewN | apply below_drew1) | exact HB.out)) hb)
                            clear HO_9
                            clear HB
                            have HO_9 := n0_
                            have HO261 := n1_
                            have HB := n2_
                            clear n0_ n1_ n2_
                            clear hb ho38
                            refine hK.out _ _ trivial (fun hHeld => ?_)
                            clear hK K
                            refine norm_ (a' := ?_) ?_ ?_
                            rotate_left
                            · show Act.put _ (some 49) _ = _
                              simp only [Act.put, List.setIfInBounds_toArray, List.set_cons_zero, List.set_cons_succ, i64_w, i32_w]
                              rfl
                            refine one_ (i := 4) (N := some 53) #[true, true, true, true, true, true, true, true, true, false, false] rfl rfl (one_of HT_.out (by kernel_rfl)) (by decide) (fun K hK => ?_)
                            refine Kd.R_append_rows_step k32 (w0 := w) w.heap.size (by rfl) (.tmp 49) (.tmp 52) 22 32 (.agg #[(.int .i64 0), (.int .i64 0), (.bool false)]) 24 rfl Try.underlying22 info32 rfl (by decide) (by omega) v260 y259 y262 _ _ _ (fun _ => True) (fun _ => False) rfl rfl ?aO ?aR (fun _ _ h => h) (fun _ h => h.elim) ?aF ?aB ?aS ?aL ?_
                            (case aR => repeat (first | exact (Kd.C_below HR265.out HB.out) | (with_reducible refine Kd.C_alloc ?_ _) | (with_reducible refine Kd.C_drewN ?_ _) | (with_reducible refine Kd.C_drew ?_)))
                            (case aB => exact (by repeat (first | (with_reducible first | exact HB.out | apply below_alloc | apply pw_below_drewN | apply below_drew1) | exact HB.out)))
                            (case aF => exact (fun _ _ => trivial))
                            (case aO => exact (by (with_reducible repeat (first | apply Kd.R_alloc | apply Kd.R_drewN | apply Kd.R_drew)); exact HO261.out))
                            (case aS => exact (below_size (by repeat (first | (with_reducible first | exact HB.out | apply below_alloc | apply pw_below_drewN | apply below_drew1) | exact HB.out))))
                            (case aL => have := LMc18.out; omega)
                            intro v267 w39 ho hb hg hat
                            rw [← Ny266.out] at ho
                            have n0_ := Aside0.mk (Kd.Q_over' (by (with_reducible repeat (first | apply Kd.Q_alloc | apply Kd.Q_drewN | apply Kd.Q_drew)); exact HO_9.out) (Kd.R_typed (by (with_reducible repeat (first | apply Kd.R_alloc | apply Kd.R_drewN | apply Kd.R_drew)); exact HO261.out)) (by decide) hg)
                            have n1_ := Aside0.mk (hb)
                            have n2_ := Aside0.mk (ho)
                            clear HO_9
                            clear HB
                            clear HO261
                            have HO_9 := n0_
                            have HB := n1_
                            have HO268 := n2_
                            clear n0_ n1_ n2_
                            clear ho hb hg hat
                            refine hK.out _ _ trivial (fun hHeld => ?_)
                            clear hK K
                            refine norm_ (a' := ?_) ?_ ?_
                            rotate_left
                            · show Act.put _ (some 53) _ = _
                              simp only [Act.put, List.setIfInBounds_toArray, List.set_cons_zero, List.set_cons_succ, i64_w, i32_w]
                              rfl
                            refine one_ (i := 9) (N := some 58) #[true, true, true, true, true, true, true, true, true, true, false] rfl rfl (one_of HT_.out (by kernel_rfl)) (by decide) (fun K hK => ?_)
                            refine Kd.R_append_rows_step k32 (w0 := w) w.heap.size (by rfl) (.tmp 53) (.tmp 57) 22 32 (.agg #[(.int .i64 0), (.int .i64 0), (.bool false)]) 24 rfl Try.underlying22 info32 rfl (by decide) (by omega) v267 y266 y269 _ _ _ (fun _ => True) (fun _ => False) rfl rfl ?aO ?aR (fun _ _ h => h) (fun _ h => h.elim) ?aF ?aB ?aS ?aL ?_
                            (case aR => repeat (first | exact (Kd.C_below HR272.out HB.out) | (with_reducible refine Kd.C_alloc ?_ _) | (with_reducible refine Kd.C_drewN ?_ _) | (with_reducible refine Kd.C_drew ?_)))
                            (case aB => exact (by repeat (first | (with_reducible first | exact HB.out | apply below_alloc | apply pw_below_drewN | apply below_drew1) | exact HB.out)))
                            (case aF => exact (fun _ _ => trivial))
                            (case aO => exact (by (with_reducible repeat (first | apply Kd.R_alloc | apply Kd.R_drewN | apply Kd.R_drew)); exact HO268.out))
                            (case aS => exact (below_size (by repeat (first | (with_reducible first | exact HB.out | apply below_alloc | apply pw_below_drewN | apply below_drew1) | exact HB.out))))
                            (case aL => have := LMc22.out; omega)
                            intro v274 w40 ho hb hg hat
                            rw [← Ny273.out] at ho
                            have n0_ := Aside0.mk (Kd.Q_over' (by (with_reducible repeat (first | apply Kd.Q_alloc | apply Kd.Q_drewN | apply Kd.Q_drew)); exact HO_9.out) (Kd.R_typed (by (with_reducible repeat (first | apply Kd.R_alloc | apply Kd.R_drewN | apply Kd.R_drew)); exact HO268.out)) (by decide) hg)
                            have n1_ := Aside0.mk (hb)
                            have n2_ := Aside0.mk (ho)
                            clear HO_9
                            clear HB
                            clear HO268
                            have HO_9 := n0_
                            have HB := n1_
                            have HO275 := n2_
                            clear n0_ n1_ n2_
                            clear ho hb hg hat
                            refine hK.out _ _ trivial (fun hHeld => ?_)
                            clear hK K
                            refine norm_ (a' := ?_) ?_ ?_
                            rotate_left
                            · show Act.put _ (some 58) _ = _
                              simp only [Act.put, List.setIfInBounds_toArray, List.set_cons_zero, List.set_cons_succ, i64_w, i32_w]
                              rfl
                            refine pure_ (i := 10) (N := some 11) (v := ?_) (a' := ?_) #[true, true, true, true, true, true, true, true, true, true, true] rfl rfl (any_of HT_.out (by kernel_rfl)) (fun _ _ _ h => h) (Or.inl ⟨by rfl, ?_⟩) ?_ ?_
                            rotate_left
                            · intro w'
                              go_simp
                              with_reducible rfl
                            rotate_left
                            · simp only [Act.put, List.setIfInBounds_toArray, List.set_cons_zero, List.set_cons_succ, i64_w, i32_w]
                              rfl
                            refine done_ (done_of HT_.out (by kernel_rfl)) ?_
                            obtain ⟨Ao41, co41, eo41⟩ := Kd.R_slice HO275.out
                            subst eo41
                            try go_wp2_with (first | ((with_reducible refine gate_callee (f := 9) rfl ?_); refine goesL_ (some 62) rfl rfl Try.func9 (by kernel_rfl) rfl #[.int .i64 a0, .slice Ao41 y273.length co41] rfl (by (try simp only [List.map_toArray, List.map_cons, List.map_nil]); first | done | rfl | (simp only [List.length_drop, List.length_take]; rfl)) ?_; (with_reducible refine (graph_Order.calls kj11 a0 _ _ y273 t276 t277 t278 _ ?side1 ?side2 A23.out).mono ?_); (case side1 => repeat (first | exact (Kd.R_reads' HO275.out).2.2 | (with_reducible refine Kd.C_alloc ?_ _) | (with_reducible refine Kd.C_drewN ?_ _) | (with_reducible refine Kd.C_drew ?_))); (case side2 => exact (Kd.R_reads' HO275.out).2.1); rintro e w42 ⟨v279, v281, rfl, ho0, ho1, hb⟩; refine ⟨_, rfl, ?_⟩; have n0_ := Aside0.mk (Kd.Q_mono (Kd.Q_told (Kd.Q_told (Kd.Q_old (by (with_reducible repeat (first | apply Kd.Q_alloc | apply Kd.Q_drewN | apply Kd.Q_drew)); exact HO_9.out) hb) (Kd.R_base ho0)) (Kd.Q_base ho1)) (fun _ h_ => h_.1)); have n1_ := Aside0.mk (Kd.R_below (by (with_reducible repeat (first | apply Kd.R_alloc | apply Kd.R_drewN | apply Kd.R_drew)); exact HO275.out) hb); have n2_ := Aside0.mk (Kd.R_lower (Kd.R_new' ho0 (Kd.Q_lt (by (with_reducible repeat (first | apply Kd.Q_alloc | apply Kd.Q_drewN | apply Kd.Q_drew)); exact HO_9.out))) (below_size (by repeat (first | (with_reducible first | exact HB.out | apply below_alloc | apply pw_below_drewN | apply below_drew1) | exact HB.out)))); have n3_ := Aside0.mk (Kd.Q_lower (Kd.Q_new' ho1 (Kd.Q_lt (by (with_reducible repeat (first | apply Kd.Q_alloc | apply Kd.Q_drewN | apply Kd.Q_drew)); exact HO_9.out))) (below_size (by repeat (first | (with_reducible first | exact HB.out | apply below_alloc | apply pw_below_drewN | apply below_drew1) | exact HB.out)))); have n4_ := Aside0.mk (below_step (by repeat (first | (with_reducible first | exact HB.out | apply below_alloc | apply pw_below_drewN | apply below_drew1) | exact HB.out)) hb); clear HO_9; clear HO275; clear HB; have HO_9 := n0_; have HO275 := n1_; have HO280 := n2_; have HO282 := n3_; have HB := n4_; clear n0_ n1_ n2_ n3_ n4_; (try clear hb); (try clear hb2); (try clear hk); (try clear hi); (try clear ho0); (try clear ho1)) | ((with_reducible refine gate_dst (N := 70) rfl ?_); (try (refine gate_guard (by rfl) ?_; dsimp only)); refine Kd.R_lit k32 _ 32 ?hg (N := 70) ?hd (xs := ([] : List (S32))) (inner := []) (ok := fun _ => True) (okp := fun _ => True) ?hr ?hp (fun _ hk => hk) trivial (Below.refl _ _) (Nat.le_refl _) (by simp) ?_; (case hd => rfl); (case hg => rfl); (case hr => first | (go_simp; done) | (go_simp; rfl)); (case hp => exact (Reps.none _ _)); intro v284 w43 ho44 hb hg_ hnew_; clear hg_ hnew_; (first | rw [← Ny283.out] at ho44 | (simp only [Int.reduceToNat] at ho44; rw [← Ny283.out] at ho44)); have n0_ := Aside0.mk (Kd.Q_below (by (with_reducible repeat (first | apply Kd.Q_alloc | apply Kd.Q_drewN | apply Kd.Q_drew)); exact HO_9.out) hb); have n1_ := Aside0.mk (Kd.R_elder' (by (with_reducible repeat (first | apply Kd.R_alloc | apply Kd.R_drewN | apply Kd.R_drew)); exact HO275.out) (Kd.R_base ho44) hb); have n2_ := Aside0.mk (Kd.R_below (by (with_reducible repeat (first | apply Kd.R_alloc | apply Kd.R_drewN | apply Kd.R_drew)); exact HO280.out) hb); have n3_ := Aside0.mk (Kd.Q_below (by (with_reducible repeat (first | apply Kd.Q_alloc | apply Kd.Q_drewN | apply Kd.Q_drew)); exact HO282.out) hb); have n4_ := Aside0.mk (Kd.R_lower (Kd.R_new' ho44 (Kd.R_lt (by (with_reducible repeat (first | apply Kd.R_alloc | apply Kd.R_drewN | apply Kd.R_drew)); exact HO275.out))) (below_size (by repeat (first | (with_reducible first | exact HB.out | apply below_alloc | apply pw_below_drewN | apply below_drew1) | exact HB.out)))); have n5_ := Aside0.mk (below_step (by repeat (first | (with_reducible first | exact HB.out | apply below_alloc | apply pw_below_drewN | apply below_drew1) | exact HB.out)) hb); clear HO_9; clear HO275; clear HO280; clear HO282; clear HB; have HO_9 := n0_; have HO275 := n1_; have HO280 := n2_; have HO282 := n3_; have HO285 := n4_; have HB := n5_; clear n0_ n1_ n2_ n3_ n4_ n5_; clear hb ho44))
                            go_loopg [15, 16] kj11 (fun kq v15 v16 w' => ∃ (x15_3 : List (S32)) (x16_3 : Int), v16 = .int .i64 x16_3 ∧ Aside0 (majordomolaw08_GraphFewer.l0 kq a0 t253 x15_3 x16_3 = some r) ∧ Aside0 (kq ≤ kj11) ∧ Aside0 (Kd.Q (Kd.int .i64) 3 w' w.heap.size (fun _ => True) v257 t253) ∧ Aside0 (Kd.R k32 32 w' w.heap.size (fun _ => True) v15 x15_3) ∧ Aside0 (Below w.heap.size w w'))
                            case atStart => exact ⟨(y283), (0), (by first | rfl | (simp; done) | (simp [*]; done)), H', ⟨Nat.le_refl _⟩, ⟨by (with_reducible repeat (first | apply Kd.Q_alloc | apply Kd.Q_drewN | apply Kd.Q_drew)); exact Kd.Q_mono HO_9.out (fun _ hk => trivial)⟩, ⟨by (with_reducible repeat (first | apply Kd.R_alloc | apply Kd.R_drewN | apply Kd.R_drew)); exact Kd.R_mono HO285.out (fun _ hk => trivial)⟩, ⟨by repeat (first | (with_reducible first | exact HB.out | apply below_alloc | apply pw_below_drewN | apply below_drew1) | exact HB.out)⟩⟩
                            case round =>
                              clear H'
                              try clear c1
                              try clear c2
                              try clear p2
                              try clear q2
                              try clear c3
                              try clear q3
                              try clear p6
                              try clear c7
                              try clear c8
                              try clear c9
                              try clear c10
                              try clear c10b0
                              try clear c10b1
                              try clear c11
                              try clear c13
                              try clear c13b0
                              try clear c14
                              try clear c14b0
                              try clear c14b1
                              try clear c14b2
                              try clear c16
                              try clear c16b0
                              try clear c16b1
                              try clear c17
                              try clear c17b0
                              try clear c17b1
                              try clear c18
                              try clear c20
                              try clear c20b0
                              try clear c20b1
                              try clear c21
                              try clear c21b0
                              try clear c21b1
                              try clear c22
                              try clear c24
                              try clear c24b0
                              try clear c24b1
                              try clear q26
                              try clear c27
                              try clear q27
                              try clear q35
                              try clear c36
                              try clear q36
                              try clear p2
                              try clear p6
                              try clear q027
                              try clear q036
                              try clear q26
                              try clear q27
                              try clear q35
                              try clear q36
                              obtain ⟨x15_3, x16_3, rfl, HA, HK3, HO_9, HO_15, HB⟩ := hrel
                              cases gk with
                              | zero => exact absurd HA.out (by simp [majordomolaw08_GraphFewer.l0])
                              | succ k3 =>
                                have H := HA.out
                                clear HA
                                simp only [majordomolaw08_GraphFewer.l0] at H
                                by_cases c45 : x16_3 < (t253.length : Int)
                                · rw [if_pos c45] at H
                                  have c45b0 : decide (x16_3 < (t253.length : Int)) = true := decide_eq_true c45
                                  clear c45
                                  by_cases c46 : 0 ≤ x16_3
                                  · rw [if_pos c46] at H
                                    have c46b0 : decide (0 ≤ x16_3) = true := decide_eq_true c46
                                    clear c46
                                    by_cases c47 : (t253.length : Int) = 0
                                    · rw [if_pos c47] at H
                                      exact absurd H (by simp)
                                    · rw [if_neg c47] at H
                                      have c47b0 : ((t253.length : Int) == 0) = false := beq_eq_false_iff_ne.mpr c47
                                      have c47b1 : ((t253.length : Int) != 0) = true := bne_iff_ne.mpr c47
                                      have c47b2 : ¬ (t253 = []) := fun h_ => c47 (by rw [h_]; rfl)
                                      obtain ⟨ji48, hji48⟩ : ∃ j_ : Int, (Int.tmod (wrap64 (x16_3 + 1)) (t253.length : Int)) = j_ := ⟨_, rfl⟩
                                      replace H : (if 0 ≤ (ji48) then (if (ji48) < (t253.length : Int) then (if x15_3.length < 5864062014805 then (majordomolaw08_GraphFewer.l0 k3 a0 t253 (x15_3 ++ [(⟨rd t253 x16_3, rd t253 (ji48), false⟩ : S32)]) (wrap64 (x16_3 + 1))) else (none)) else (none)) else (none)) = some r := by first | (rw [hji48] at H; exact H) | (simp only [hji48] at H ⊢; exact H)
                                      by_cases c49 : 0 ≤ (ji48)
                                      · rw [if_pos c49] at H
                                        have c49b0 : decide (0 ≤ (ji48)) = true := decide_eq_true c49
                                        clear c49
                                        by_cases c50 : (ji48) < (t253.length : Int)
                                        · rw [if_pos c50] at H
                                          have c50b0 : decide ((ji48) < (t253.length : Int)) = true := decide_eq_true c50
                                          clear c50
                                          by_cases c51 : x15_3.length < 5864062014805
                                          · rw [if_pos c51] at H
                                            have LMc51 := Aside0.mk c51
                                            clear c51
                                            obtain ⟨y288, hy288⟩ : ∃ y_ : List (S32), y_ = (x15_3 ++ [(⟨rd t253 x16_3, rd t253 (ji48), false⟩ : S32)]) := ⟨_, rfl⟩
                                            replace H : (majordomolaw08_GraphFewer.l0 k3 a0 t253 y288 (wrap64 (x16_3 + 1))) = some r := by first | (rw [hy288]; with_reducible exact H) | (have H2_ := (Option.bind_some _ _).symm.trans H; rw [hy288]; with_reducible exact H2_) | (have H2_ := (Option.bind_some _ _).symm.trans H; with_reducible exact H2_) | with_reducible exact H | (rw [hy288]; exact H) | exact H
                                            have Ny288 := Aside0.mk hy288
                                            clear hy288
                                            have H' := Aside0.mk H
                                            clear H
                                            obtain ⟨Ao52, co52, eo52, _⟩ := Kd.Q_slice HO_9.out
                                            subst eo52
                                            try go_wp2
                                            have n0_ := Aside0.mk (Kd.Q_drew HO_9.out)
                                            have n1_ := Aside0.mk (Kd.R_drew HO_15.out)
                                            have n2_ := Aside0.mk (below_drew1 HB.out)
                                            clear HO_9
                                            clear HO_15
                                            clear HB
                                            have HO_9 := n0_
                                            have HO_15 := n1_
                                            have HB := n2_
                                            clear n0_ n1_ n2_
                                            have p286 : 0 ≤ (x16_3 : Int) := of_decide_eq_true (by first | (with_reducible assumption) | assumption)
                                            have q286 : x16_3 < (t253.length : Int) := of_decide_eq_true (by first | (with_reducible assumption) | assumption)
                                            obtain ⟨ad286, e286, hx286_0⟩ := Kd.at_int (Kd.Q_reads' HO_9.out).2.2 x16_3 p286 q286
                                            cases e286
                                            replace p286 := eq_true p286
                                            replace q286 := eq_true q286
                                            have p287 : 0 ≤ ((ji48) : Int) := of_decide_eq_true (by first | (with_reducible assumption) | assumption)
                                            have q287 : (ji48) < (t253.length : Int) := of_decide_eq_true (by first | (with_reducible assumption) | assumption)
                                            obtain ⟨ad287, e287, hx287_0⟩ := Kd.at_int (Kd.Q_reads' HO_9.out).2.2 (ji48) p287 q287
                                            obtain rfl : ad286 = ad287 := (by injection e287)
                                            replace p287 := eq_true p287
                                            replace q287 := eq_true q287
                                            refine start_ (n := 17) (S := fun w' => w'.cell? (ad286.add (x16_3).toNat) = some (.int .i64 (rd t253 x16_3)) ∧ w'.cell? (ad286.add ((ji48)).toNat) = some (.int .i64 (rd t253 (ji48)))) (ds := [14, 15]) #[false, false, false, false, false, false, false, false, false, false, false, false, false, false, false, false, false] (by kernel_rfl) rfl rfl ⟨hx286_0, hx287_0⟩ (fun hHeld => ?_); refine with_tabW majordomolaw08_GraphFewer.tab16 majordomolaw08_GraphFewer.bits16 (fun HT_ HW_ => ?_)
                                            generalize wr.drew = w53 at HO_9 HO_15 HB hx286_0 hx287_0 hHeld ⊢
                                            refine pure_ (i := 0) (N := some 77) (v := ?_) (a' := ?_) #[true, false, false, false, false, false, false, false, false, false, false, false, false, false, false, false, false] rfl rfl (any_of HT_.out (by kernel_rfl)) (fun _ _ _ h => h) (Or.inl ⟨by rfl, ?_⟩) ?_ ?_
                                            rotate_left
                                            · intro w'
                                              go_simp
                                              with_reducible rfl
                                            rotate_left
                                            · simp only [Act.put, List.setIfInBounds_toArray, List.set_cons_zero, List.set_cons_succ, i64_w, i32_w]
                                              rfl
                                            refine pure_ (i := 1) (N := some 78) (v := ?_) (a' := ?_) #[true, true, false, false, false, false, false, false, false, false, false, false, false, false, false, false, false] rfl rfl (any_of HT_.out (by kernel_rfl)) (fun _ _ _ h => h) (Or.inl ⟨by rfl, ?_⟩) ?_ ?_
                                            rotate_left
                                            · intro w'
                                              go_simp
                                              with_reducible rfl
                                            rotate_left
                                            · simp only [Act.put, List.setIfInBounds_toArray, List.set_cons_zero, List.set_cons_succ, i64_w, i32_w]
                                              rfl
                                            refine pure_ (i := 2) (N := some 79) (v := ?_) (a' := ?_) #[true, true, true, false, false, false, false, false, false, false, false, false, false, false, false, false, false] rfl rfl (any_of HT_.out (by kernel_rfl)) (fun _ _ _ h => h) (Or.inl ⟨by rfl, ?_⟩) ?_ ?_
                                            rotate_left
                                            · intro w'
                                              go_simp
                                              with_reducible rfl
                                            rotate_left
                                            · simp only [Act.put, List.setIfInBounds_toArray, List.set_cons_zero, List.set_cons_succ, i64_w, i32_w]
                                              rfl
                                            refine pure_ (i := 3) (N := some 80) (v := ?_) (a' := ?_) #[true, true, true, true, false, false, false, false, false, false, false, false, false, false, false, false, false] rfl rfl (any_of HT_.out (by kernel_rfl)) (fun _ _ _ h => h) (Or.inl ⟨by rfl, ?_⟩) ?_ ?_
                                            rotate_left
                                            · intro w'
                                              go_simp
                                              with_reducible rfl
                                            rotate_left
                                            · simp only [Act.put, List.setIfInBounds_toArray, List.set_cons_zero, List.set_cons_succ, i64_w, i32_w]
                                              rfl
                                            refine pure_ (i := 5) (N := some 82) (v := ?_) (a' := ?_) #[true, true, true, true, false, true, false, false, false, false, false, false, false, false, false, false, false] rfl rfl (any_of HT_.out (by kernel_rfl)) (fun _ _ _ h => h) (Or.inl ⟨by rfl, ?_⟩) ?_ ?_
                                            rotate_left
                                            · intro w'
                                              go_simp
                                              with_reducible rfl
                                            rotate_left
                                            · simp only [Act.put, List.setIfInBounds_toArray, List.set_cons_zero, List.set_cons_succ, i64_w, i32_w]
                                              rfl
                                            refine pure_ (i := 6) (N := some 83) (v := ?_) (a' := ?_) #[true, true, true, true, false, true, true, false, false, false, false, false, false, false, false, false, false] rfl rfl (any_of HT_.out (by kernel_rfl)) (fun _ _ _ h => h) (Or.inl ⟨by rfl, ?_⟩) ?_ ?_
                                            rotate_left
                                            · intro w'
                                              go_simp
                                              with_reducible rfl
                                            rotate_left
                                            · simp only [Act.put, List.setIfInBounds_toArray, List.set_cons_zero, List.set_cons_succ, i64_w, i32_w]
                                              rfl
                                            refine pure_ (i := 7) (N := some 84) (v := ?_) (a' := ?_) #[true, true, true, true, false, true, true, true, false, false, false, false, false, false, false, false, false] rfl rfl (any_of HT_.out (by kernel_rfl)) (fun _ _ _ h => h) (Or.inl ⟨by rfl, ?_⟩) ?_ ?_
                                            rotate_left
                                            · intro w'
                                              go_simp
                                              with_reducible rfl
                                            rotate_left
                                            · simp only [Act.put, List.setIfInBounds_toArray, List.set_cons_zero, List.set_cons_succ, i64_w, i32_w]
                                              rfl
                                            refine pure_ (i := 8) (N := some 85) (v := ?_) (a' := ?_) #[true, true, true, true, false, true, true, true, true, false, false, false, false, false, false, false, false] rfl rfl (any_of HT_.out (by kernel_rfl)) (fun _ _ _ h => h) (Or.inl ⟨by rfl, ?_⟩) ?_ ?_
                                            rotate_left
                                            · intro w'
                                              go_simp
                                              with_reducible rfl
                                            rotate_left
                                            · simp only [Act.put, List.setIfInBounds_toArray, List.set_cons_zero, List.set_cons_succ, i64_w, i32_w]
                                              rfl
                                            refine pure_ (i := 9) (N := some 86) (v := ?_) (a' := ?_) #[true, true, true, true, false, true, true, true, true, true, false, false, false, false, false, false, false] rfl rfl (any_of HT_.out (by kernel_rfl)) (fun _ _ _ h => h) (Or.inl ⟨by rfl, ?_⟩) ?_ ?_
                                            rotate_left
                                            · intro w'
                                              go_simp
                                              with_reducible rfl
                                            rotate_left
                                            · simp only [Act.put, List.setIfInBounds_toArray, List.set_cons_zero, List.set_cons_succ, i64_w, i32_w]
                                              rfl
                                            refine pure_ (i := 10) (N := some 87) (v := ?_) (a' := ?_) #[true, true, true, true, false, true, true, true, true, true, true, false, false, false, false, false, false] rfl rfl (any_of HT_.out (by kernel_rfl)) (fun _ _ _ h => h) (Or.inl ⟨by rfl, ?_⟩) ?_ ?_
                                            rotate_left
                                            · intro w'
                                              go_simp
                                              with_reducible rfl
                                            rotate_left
                                            · simp only [Act.put, List.setIfInBounds_toArray, List.set_cons_zero, List.set_cons_succ, i64_w, i32_w]
                                              rfl
                                            refine pure_ (i := 11) (N := some 88) (v := ?_) (a' := ?_) #[true, true, true, true, false, true, true, true, true, true, true, true, false, false, false, false, false] rfl rfl (any_of HT_.out (by kernel_rfl)) (fun _ _ _ h => h) (Or.inl ⟨by rfl, ?_⟩) ?_ ?_
                                            rotate_left
                                            · intro w'
                                              go_simp
                                              with_reducible rfl
                                            rotate_left
                                            · simp only [Act.put, List.setIfInBounds_toArray, List.set_cons_zero, List.set_cons_succ, i64_w, i32_w]
                                              rfl
                                            refine take_ (i := 4) (N := some 81) (v := ?_) (a' := ?_) #[true, true, true, true, true, true, true, true, true, true, true, true, false, false, false, false, false] rfl rfl (take_ofW HT_.out HW_.out (by kernel_rfl)) (fun _ _ _ h => h) (Or.inl ⟨by rfl, ?_⟩) hHeld ?_ ?_
                                            rotate_left
                                            · rintro w' ⟨s0, s1⟩
                                              go_simp
                                              with_reducible rfl
                                            rotate_left
                                            · simp only [Act.put, List.setIfInBounds_toArray, List.set_cons_zero, List.set_cons_succ, i64_w, i32_w]
                                              rfl
                                            refine take_ (i := 12) (N := some 89) (v := ?_) (a' := ?_) #[true, true, true, true, true, true, true, true, true, true, true, true, true, false, false, false, false] rfl rfl (take_ofW HT_.out HW_.out (by kernel_rfl)) (fun _ _ _ h => h) (Or.inl ⟨by rfl, ?_⟩) hHeld ?_ ?_
                                            rotate_left
                                            · rintro w' ⟨s0, s1⟩
                                              go_simp
                                              with_reducible rfl
                                            rotate_left
                                            · simp only [Act.put, List.setIfInBounds_toArray, List.set_cons_zero, List.set_cons_succ, i64_w, i32_w]
                                              rfl
                                            refine pure_ (i := 13) (N := some 90) (v := ?_) (a' := ?_) #[true, true, true, true, true, true, true, true, true, true, true, true, true, true, false, false, false] rfl rfl (any_of HT_.out (by kernel_rfl)) (fun _ _ _ h => h) (Or.inl ⟨by rfl, ?_⟩) ?_ ?_
                                            rotate_left
                                            · intro w'
                                              go_simp
                                              with_reducible rfl
                                            rotate_left
                                            · simp only [Act.put, List.setIfInBounds_toArray, List.set_cons_zero, List.set_cons_succ, i64_w, i32_w]
                                              rfl
                                            refine last_ (i := 14) (N := some 91) #[true, true, true, true, true, true, true, true, true, true, true, true, true, true, true, false, false] rfl rfl (one_of HT_.out (by kernel_rfl)) (by decide) (fun K hK => ?_)
                                            refine value_ (w1 := ?_) (v := ?_) (by rfl) rfl ?_ ?_
                                            rotate_left 2
                                            · go_simp
                                              constructor
                                              · rfl
                                              · rfl
                                            refine hK.out _ _ ?_
                                            clear hK K
                                            refine norm_ (a' := ?_) ?_ ?_
                                            rotate_left
                                            · show Act.put _ (some 91) _ = _
                                              simp only [Act.put, List.setIfInBounds_toArray, List.set_cons_zero, List.set_cons_succ, i64_w, i32_w]
                                              rfl
                                            refine last_ (i := 15) (N := some 92) #[true, true, true, true, true, true, true, true, true, true, true, true, true, true, true, true, false] rfl rfl (one_of HT_.out (by kernel_rfl)) (by decide) (fun K hK => ?_)
                                            refine Kd.R_append_step k32 (w0 := w) w.heap.size (by rfl) (.tmp 77) (.tmp 91) 22 32 (.agg #[(.int .i64 0), (.int .i64 0), (.bool false)]) 24 rfl Try.underlying22 info32 rfl (by decide) (by omega) u15 x15_3 (⟨rd t253 x16_3, rd t253 (ji48), false⟩ : S32) [.int .i64 (rd t253 x16_3), .int .i64 (rd t253 (ji48)), .bool false] (fun _ => True) (fun _ => False) rfl rfl ?aP (fun _ hk => hk.elim) ?aF ?aO ?aB ?aS ?aL ?_
                                            (case aP => exact k32_mkM _ _ _ (⟨rd t253 x16_3, rd t253 (ji48), false⟩ : S32))
                                            (case aB => exact (by repeat (first | (with_reducible first | exact HB.out | apply below_alloc | apply pw_below_drewN | apply below_drew1) | exact HB.out)))
                                            (case aF => exact (fun _ _ => trivial))
                                            (case aO => exact (by (with_reducible repeat (first | apply Kd.R_alloc | apply Kd.R_drewN | apply Kd.R_drew)); exact HO_15.out))
                                            (case aS => exact (below_size (by repeat (first | (with_reducible first | exact HB.out | apply below_alloc | apply pw_below_drewN | apply below_drew1) | exact HB.out))))
                                            (case aL => have := LMc51.out; omega)
                                            intro v289 w54 ho hb hg hat
                                            rw [← Ny288.out] at ho
                                            have n0_ := Aside0.mk (Kd.Q_over' (by (with_reducible repeat (first | apply Kd.Q_alloc | apply Kd.Q_drewN | apply Kd.Q_drew)); exact HO_9.out) (Kd.R_typed (by (with_reducible repeat (first | apply Kd.R_alloc | apply Kd.R_drewN | apply Kd.R_drew)); exact HO_15.out)) (by decide) hg)
                                            have n1_ := Aside0.mk (hb)
                                            have n2_ := Aside0.mk (ho)
                                            clear HO_9
                                            clear HB
                                            clear HO_15
                                            have HO_9 := n0_
                                            have HB := n1_
                                            have HO290 := n2_
                                            clear n0_ n1_ n2_
                                            clear ho hb hg hat
                                            refine hK.out _ _ ?_
                                            clear hK K
                                            refine norm_ (a' := ?_) ?_ ?_
                                            rotate_left
                                            · show Act.put _ (some 92) _ = _
                                              simp only [Act.put, List.setIfInBounds_toArray, List.set_cons_zero, List.set_cons_succ, i64_w, i32_w]
                                              rfl
                                            refine pure_ (i := 16) (N := some 15) (v := ?_) (a' := ?_) #[true, true, true, true, true, true, true, true, true, true, true, true, true, true, true, true, true] rfl rfl (any_of HT_.out (by kernel_rfl)) (fun _ _ _ h => h) (Or.inl ⟨by rfl, ?_⟩) ?_ ?_
                                            rotate_left
                                            · intro w'
                                              go_simp
                                              with_reducible rfl
                                            rotate_left
                                            · simp only [Act.put, List.setIfInBounds_toArray, List.set_cons_zero, List.set_cons_succ, i64_w, i32_w]
                                              rfl
                                            refine done_ (done_of HT_.out (by kernel_rfl)) ?_
                                            try go_wp2
                                            go_roundg k3
                                            case measure => have := HJ5.out; have := HJ11.out; have := HK3.out; omega
                                            case rel => exact ⟨(y288), (wrap64 (x16_3 + 1)), (by first | rfl | (simp; done) | (simp [*]; done)), H', ⟨by have := HJ5.out; have := HJ11.out; have := HK3.out; omega⟩, ⟨by (with_reducible repeat (first | apply Kd.Q_alloc | apply Kd.Q_drewN | apply Kd.Q_drew)); exact HO_9.out⟩, ⟨by (with_reducible repeat (first | apply Kd.R_alloc | apply Kd.R_drewN | apply Kd.R_drew)); exact HO290.out⟩, ⟨by repeat (first | (with_reducible first | exact HB.out | apply below_alloc | apply pw_below_drewN | apply below_drew1) | exact HB.out)⟩⟩
                                          · rw [if_neg c51] at H
                                            exact absurd H (by simp)
                                        · rw [if_neg c50] at H
                                          exact absurd H (by simp)
                                      · rw [if_neg c49] at H
                                        exact absurd H (by simp)
                                  · rw [if_neg c46] at H
                                    exact absurd H (by simp)
                                · rw [if_neg c45] at H
                                  have c45b0 : decide (x16_3 < (t253.length : Int)) = false := decide_eq_false c45
                                  clear c45
                                  replace H := Option.bind_eq_some_iff.mp H
                                  obtain ⟨⟨t291, t292, t293⟩, A550, H⟩ := H
                                  replace H : (some (t293 == 80)) = some r := H
                                  have A55 := Aside0.mk A550
                                  clear A550
                                  obtain rfl := Option.some.inj H
                                  obtain ⟨Ao56, co56, eo56, _⟩ := Kd.Q_slice HO_9.out
                                  subst eo56
                                  obtain ⟨Ao57, co57, eo57⟩ := Kd.R_slice HO_15.out
                                  subst eo57
                                  go_wp2_with (first | ((with_reducible refine gate_callee (f := 9) rfl ?_); refine goesL_ (some 96) rfl rfl Try.func9 (by kernel_rfl) rfl #[.int .i64 a0, .slice Ao57 x15_3.length co57] rfl (by (try simp only [List.map_toArray, List.map_cons, List.map_nil]); first | done | rfl | (simp only [List.length_drop, List.length_take]; rfl)) ?_; (with_reducible refine (graph_Order.calls k3 a0 _ _ x15_3 t291 t292 t293 _ ?side1 ?side2 A55.out).mono ?_); (case side1 => repeat (first | exact (Kd.R_reads' HO_15.out).2.2 | (with_reducible refine Kd.C_alloc ?_ _) | (with_reducible refine Kd.C_drewN ?_ _) | (with_reducible refine Kd.C_drew ?_))); (case side2 => exact (Kd.R_reads' HO_15.out).2.1); rintro e w58 ⟨v294, v296, rfl, ho0, ho1, hb⟩; refine ⟨_, rfl, ?_⟩; have n0_ := Aside0.mk (Kd.Q_mono (Kd.Q_told (Kd.Q_told (Kd.Q_old (by (with_reducible repeat (first | apply Kd.Q_alloc | apply Kd.Q_drewN | apply Kd.Q_drew)); exact HO_9.out) hb) (Kd.R_base ho0)) (Kd.Q_base ho1)) (fun _ h_ => h_.1)); have n1_ := Aside0.mk (Kd.R_below (by (with_reducible repeat (first | apply Kd.R_alloc | apply Kd.R_drewN | apply Kd.R_drew)); exact HO_15.out) hb); have n2_ := Aside0.mk (Kd.R_lower (Kd.R_new' ho0 (Kd.Q_lt (by (with_reducible repeat (first | apply Kd.Q_alloc | apply Kd.Q_drewN | apply Kd.Q_drew)); exact HO_9.out))) (below_size (by repeat (first | (with_reducible first | exact HB.out | apply below_alloc | apply pw_below_drewN | apply below_drew1) | exact HB.out)))); have n3_ := Aside0.mk (Kd.Q_lower (Kd.Q_new' ho1 (Kd.Q_lt (by (with_reducible repeat (first | apply Kd.Q_alloc | apply Kd.Q_drewN | apply Kd.Q_drew)); exact HO_9.out))) (below_size (by repeat (first | (with_reducible first | exact HB.out | apply below_alloc | apply pw_below_drewN | apply below_drew1) | exact HB.out)))); have n4_ := Aside0.mk (below_step (by repeat (first | (with_reducible first | exact HB.out | apply below_alloc | apply pw_below_drewN | apply below_drew1) | exact HB.out)) hb); clear HO_9; clear HO_15; clear HB; have HO_9 := n0_; have HO_15 := n1_; have HO295 := n2_; have HO297 := n3_; have HB := n4_; clear n0_ n1_ n2_ n3_ n4_; (try clear hb); (try clear hb2); (try clear hk); (try clear hi); (try clear ho0); (try clear ho1)))
                                  go_ret
                                  exact ⟨by first | rfl | (simp [errW_none, errW_some] <;> rfl) | (simp only [← hji15, ← hji19]; first | rfl | (simp [errW_none, errW_some] <;> rfl)) | (simp [*, errW_none, errW_some] <;> rfl), by repeat (first | (with_reducible first | exact HB.out | apply below_alloc | apply pw_below_drewN | apply below_drew1) | exact HB.out)⟩
                        · rw [if_neg c22] at H
                          exact absurd H (by simp)
                      · rw [if_neg c21] at H
                        exact absurd H (by simp)
                    · rw [if_neg c20] at H
                      exact absurd H (by simp)
                  · rw [if_neg c18] at H
                    exact absurd H (by simp)
                · rw [if_neg c17] at H
                  exact absurd H (by simp)
              · rw [if_neg c16] at H
                exact absurd H (by simp)

end Go.Proofs.Ytkcfjnacnabdaaa.PG
