-- printed by wip/printx (a program of this session's, over the kit's print)
import Derived.Test.YtoggcdldoinbnaaPLx0
import Derived.Test.YtoggcdldoinbnaaPLx1
import Derived.Test.YtoggcdldoinbnaaPLx3
namespace Go.Proofs.Ytoggcdldoinbnaa.PL
open Go.RowKit Go.Proofs.YtoggcdldoinbnaaW.PrintWords Go.Proofs.YtoggcdldoinbnaaW.PrintLast Go.Proofs.YtoggcdldoinbnaaW.PrintMore
attribute [local go_sem] max2_int min2_int max_two min_two max_three min_three max_four min_four Go.Proofs.Ytoggcdldoinbnaa.PxMore.isSome_setCell   -- for this text's walks alone
set_option linter.unusedVariables false
set_option linter.unusedSimpArgs false

/-! ### majordomoref11_word: function 16 -/
mutual
def majordomoref11_word.j2 : Nat → ByteArray → Int → Option (Int × ByteArray × Int)
  | 0, _, _ => none
  | k + 1, x0, x3 => if x0.toList = ([123] : List UInt8) then (some (7, x0, 0)) else (if x0.toList = ([125] : List UInt8) then (some (7, x0, 0)) else (if x0.toList = ([40] : List UInt8) then (some (7, x0, 0)) else (if x0.toList = ([41] : List UInt8) then (some (7, x0, 0)) else (if x0.toList = ([91] : List UInt8) then (some (7, x0, 0)) else (if x0.toList = ([93] : List UInt8) then (some (7, x0, 0)) else (if x0.toList = ([44] : List UInt8) then (some (7, x0, 0)) else (if x0.toList = ([58] : List UInt8) then (some (7, x0, 0)) else (if x0.toList = ([61] : List UInt8) then (some (7, x0, 0)) else (if x0.toList = ([33] : List UInt8) then (some (7, x0, 0)) else (if x0.toList = ([61, 62] : List UInt8) then (some (7, x0, 0)) else (if x0.toList = ([61, 61] : List UInt8) then (some (7, x0, 0)) else (if x0.toList = ([33, 61] : List UInt8) then (some (7, x0, 0)) else (if x0.toList = ([45, 62] : List UInt8) then (some (7, x0, 0)) else (if x0.toList = ([126, 62] : List UInt8) then (some (7, x0, 0)) else (majordomoref11_word.l0 k x0 x3 0)))))))))))))))
def majordomoref11_word.l0 : Nat → ByteArray → Int → Int → Option (Int × ByteArray × Int)
  | 0, _, _, _ => none
  | k + 1, x0, x3, x4 => if x4 < x3 then (if 0 ≤ x4 then (if x4 < (x0.size : Int) then ((majordomoref11_digit.f (bt x0 x4)).bind fun t120 => (if t120 = true then (majordomoref11_word.l0 k x0 x3 (wrap64 (x4 + 1))) else (some (0, (⟨#[]⟩ : ByteArray), 0)))) else (none)) else (none)) else (if x3 > 0 then (some (6, x0, 0)) else (some (0, (⟨#[]⟩ : ByteArray), 0)))
def majordomoref11_word.j0 : Nat → ByteArray → Int → Bool → Option (Int × ByteArray × Int)
  | 0, _, _, _ => none
  | k + 1, x0, x3, x17 => if x17 = true then (if 1 ≤ (x0.size : Int) then (some (3, x0.extract 1 x0.size, 0)) else (none)) else (if x3 > 1 then (if 0 < (x0.size : Int) then (if (bt x0 0) = 39 then (if 0 ≤ (wrap64 (x3 - 1)) then (if (wrap64 (x3 - 1)) < (x0.size : Int) then (majordomoref11_word.j1 k x0 x3 ((bt x0 (wrap64 (x3 - 1))) == 39)) else (none)) else (none)) else (majordomoref11_word.j1 k x0 x3 false)) else (none)) else (majordomoref11_word.j1 k x0 x3 false))
def majordomoref11_word.j1 : Nat → ByteArray → Int → Bool → Option (Int × ByteArray × Int)
  | 0, _, _, _ => none
  | k + 1, x0, x3, x33 => if x33 = true then (if 1 ≤ (wrap64 (x3 - 1)) then (if (wrap64 (x3 - 1)) ≤ (x0.size : Int) then (some (4, x0.extract 1 ((wrap64 (x3 - 1)) : Int).toNat, 0)) else (none)) else (none)) else (if x3 > 1 then (if 0 < (x0.size : Int) then (if (bt x0 0) = 34 then (if 0 ≤ (wrap64 (x3 - 1)) then (if (wrap64 (x3 - 1)) < (x0.size : Int) then (if (bt x0 (wrap64 (x3 - 1))) = 34 then (if 1 ≤ (wrap64 (x3 - 1)) then (if (wrap64 (x3 - 1)) ≤ (x0.size : Int) then (some (5, x0.extract 1 ((wrap64 (x3 - 1)) : Int).toNat, 0)) else (none)) else (none)) else (majordomoref11_word.j2 k x0 x3)) else (none)) else (none)) else (majordomoref11_word.j2 k x0 x3)) else (none)) else (majordomoref11_word.j2 k x0 x3))
end
def majordomoref11_word.f (k : Nat) (a0 : ByteArray) : Option (Int × ByteArray × Int) := (majordomoref11_Name.f k a0).bind fun t117 => (if t117 = true then (some (1, a0, 0)) else ((majordomoref11_Type.f k a0).bind fun t118 => (if t118 = true then (some (2, a0, 0)) else (if (a0.size : Int) > 1 then (if 0 < (a0.size : Int) then (if (bt a0 0) = 36 then (if 1 ≤ (a0.size : Int) then ((majordomoref11_part.f k (a0.extract 1 a0.size)).bind fun t119 => (majordomoref11_word.j0 k a0 (a0.size : Int) t119)) else (none)) else (majordomoref11_word.j0 k a0 (a0.size : Int) false)) else (none)) else (majordomoref11_word.j0 k a0 (a0.size : Int) false)))))
theorem majordomoref11_word.mono_l : ∀ k, (∀ y0 y1, LeO (majordomoref11_word.j2 k y0 y1) (majordomoref11_word.j2 (k + 1) y0 y1)) ∧ (∀ y0 y1 y2, LeO (majordomoref11_word.l0 k y0 y1 y2) (majordomoref11_word.l0 (k + 1) y0 y1 y2)) ∧ (∀ y0 y1 y2, LeO (majordomoref11_word.j0 k y0 y1 y2) (majordomoref11_word.j0 (k + 1) y0 y1 y2)) ∧ (∀ y0 y1 y2, LeO (majordomoref11_word.j1 k y0 y1 y2) (majordomoref11_word.j1 (k + 1) y0 y1 y2))
  | 0 => ⟨fun _ _ r h => by simp [majordomoref11_word.j2] at h, fun _ _ _ r h => by simp [majordomoref11_word.l0] at h, fun _ _ _ r h => by simp [majordomoref11_word.j0] at h, fun _ _ _ r h => by simp [majordomoref11_word.j1] at h⟩
  | k + 1 => by
    obtain ⟨ih0, ih1, ih2, ih3⟩ := majordomoref11_word.mono_l k
    refine ⟨?_, ?_, ?_, ?_⟩
    · intro y0 y1
      unfold majordomoref11_word.j2
      repeat' first
      | (with_reducible exact ih0 _ _)
      | (with_reducible exact ih1 _ _ _)
      | (with_reducible exact ih2 _ _ _)
      | (with_reducible exact ih3 _ _ _)
      | (with_reducible exact majordomoref11_Name.mono _ _)
      | (with_reducible exact majordomoref11_Type.mono _ _)
      | (with_reducible exact majordomoref11_part.mono _ _)
      | (with_reducible exact LeO.refl _)
      | (with_reducible exact LeO.none _)
      | (with_reducible refine LeO.ite ?_ ?_)
      | (with_reducible refine LeO.bind ?_ (fun _ => ?_))
      | exact ih0 _ _
      | exact ih1 _ _ _
      | exact ih2 _ _ _
      | exact ih3 _ _ _
      | exact majordomoref11_Name.mono _ _
      | exact majordomoref11_Type.mono _ _
      | exact majordomoref11_part.mono _ _
      | exact LeO.none _
      | refine LeO.ite ?_ ?_
      | refine LeO.bind ?_ (fun _ => ?_)
    · intro y0 y1 y2
      unfold majordomoref11_word.l0
      repeat' first
      | (with_reducible exact ih0 _ _)
      | (with_reducible exact ih1 _ _ _)
      | (with_reducible exact ih2 _ _ _)
      | (with_reducible exact ih3 _ _ _)
      | (with_reducible exact majordomoref11_Name.mono _ _)
      | (with_reducible exact majordomoref11_Type.mono _ _)
      | (with_reducible exact majordomoref11_part.mono _ _)
      | (with_reducible exact LeO.refl _)
      | (with_reducible exact LeO.none _)
      | (with_reducible refine LeO.ite ?_ ?_)
      | (with_reducible refine LeO.bind ?_ (fun _ => ?_))
      | exact ih0 _ _
      | exact ih1 _ _ _
      | exact ih2 _ _ _
      | exact ih3 _ _ _
      | exact majordomoref11_Name.mono _ _
      | exact majordomoref11_Type.mono _ _
      | exact majordomoref11_part.mono _ _
      | exact LeO.none _
      | refine LeO.ite ?_ ?_
      | refine LeO.bind ?_ (fun _ => ?_)
    · intro y0 y1 y2
      unfold majordomoref11_word.j0
      repeat' first
      | (with_reducible exact ih0 _ _)
      | (with_reducible exact ih1 _ _ _)
      | (with_reducible exact ih2 _ _ _)
      | (with_reducible exact ih3 _ _ _)
      | (with_reducible exact majordomoref11_Name.mono _ _)
      | (with_reducible exact majordomoref11_Type.mono _ _)
      | (with_reducible exact majordomoref11_part.mono _ _)
      | (with_reducible exact LeO.refl _)
      | (with_reducible exact LeO.none _)
      | (with_reducible refine LeO.ite ?_ ?_)
      | (with_reducible refine LeO.bind ?_ (fun _ => ?_))
      | exact ih0 _ _
      | exact ih1 _ _ _
      | exact ih2 _ _ _
      | exact ih3 _ _ _
      | exact majordomoref11_Name.mono _ _
      | exact majordomoref11_Type.mono _ _
      | exact majordomoref11_part.mono _ _
      | exact LeO.none _
      | refine LeO.ite ?_ ?_
      | refine LeO.bind ?_ (fun _ => ?_)
    · intro y0 y1 y2
      unfold majordomoref11_word.j1
      repeat' first
      | (with_reducible exact ih0 _ _)
      | (with_reducible exact ih1 _ _ _)
      | (with_reducible exact ih2 _ _ _)
      | (with_reducible exact ih3 _ _ _)
      | (with_reducible exact majordomoref11_Name.mono _ _)
      | (with_reducible exact majordomoref11_Type.mono _ _)
      | (with_reducible exact majordomoref11_part.mono _ _)
      | (with_reducible exact LeO.refl _)
      | (with_reducible exact LeO.none _)
      | (with_reducible refine LeO.ite ?_ ?_)
      | (with_reducible refine LeO.bind ?_ (fun _ => ?_))
      | exact ih0 _ _
      | exact ih1 _ _ _
      | exact ih2 _ _ _
      | exact ih3 _ _ _
      | exact majordomoref11_Name.mono _ _
      | exact majordomoref11_Type.mono _ _
      | exact majordomoref11_part.mono _ _
      | exact LeO.none _
      | refine LeO.ite ?_ ?_
      | refine LeO.bind ?_ (fun _ => ?_)
theorem majordomoref11_word.mono : ∀ a0 k, LeO (majordomoref11_word.f k a0) (majordomoref11_word.f (k + 1) a0) := by
  intro a0 k
  obtain ⟨ih0, ih1, ih2, ih3⟩ := majordomoref11_word.mono_l k
  unfold majordomoref11_word.f
  repeat' first
      | (with_reducible exact ih0 _ _)
      | (with_reducible exact ih1 _ _ _)
      | (with_reducible exact ih2 _ _ _)
      | (with_reducible exact ih3 _ _ _)
      | (with_reducible exact majordomoref11_Name.mono _ _)
      | (with_reducible exact majordomoref11_Type.mono _ _)
      | (with_reducible exact majordomoref11_part.mono _ _)
      | (with_reducible exact LeO.refl _)
      | (with_reducible exact LeO.none _)
      | (with_reducible refine LeO.ite ?_ ?_)
      | (with_reducible refine LeO.bind ?_ (fun _ => ?_))
      | exact ih0 _ _
      | exact ih1 _ _ _
      | exact ih2 _ _ _
      | exact ih3 _ _ _
      | exact majordomoref11_Name.mono _ _
      | exact majordomoref11_Type.mono _ _
      | exact majordomoref11_part.mono _ _
      | exact LeO.none _
      | refine LeO.ite ?_ ?_
      | refine LeO.bind ?_ (fun _ => ?_)
set_option maxHeartbeats 8000000 in
set_option maxRecDepth 100000 in
theorem majordomoref11_word.calls (k : Nat) (a0 : ByteArray) (r1 : Int) (r2 : ByteArray) (r3 : Int) (w : World) (h : majordomoref11_word.f k a0 = some (r1, r2, r3)) :
    Calls Try.prog 16 #[.string a0] w fun e w' => e = .returned (.agg #[.int .i64 r1, .string r2, .int .i64 r3]) ∧ Below w.heap.size w w' := by
  have hu37 := Try.underlying37
  have HB := Aside0.mk (Below.refl w.heap.size w)
  have H : ((majordomoref11_Name.f k a0).bind fun t117 => (if t117 = true then (some (1, a0, 0)) else ((majordomoref11_Type.f k a0).bind fun t118 => (if t118 = true then (some (2, a0, 0)) else (if (a0.size : Int) > 1 then (if 0 < (a0.size : Int) then (if (bt a0 0) = 36 then (if 1 ≤ (a0.size : Int) then ((majordomoref11_part.f k (a0.extract 1 a0.size)).bind fun t119 => (majordomoref11_word.j0 k a0 (a0.size : Int) t119)) else (none)) else (majordomoref11_word.j0 k a0 (a0.size : Int) false)) else (none)) else (majordomoref11_word.j0 k a0 (a0.size : Int) false)))))) = some (r1, r2, r3) := h
  clear h
  have HC2 := Aside0.mk H
  clear H
  go_enter Try.func16, Try.ntmps16
  go_upto_block 0 with (first | ((with_reducible refine gate_dst (N := 2) rfl ?_); refine box_event ?hg (N := 2) ?hd (cs := #[.int .i64 0, .string (⟨#[]⟩ : ByteArray), .int .i64 0]) (t := 37) ?hr ?_; (case hd => rfl); (case hg => rfl); (case hr => first | (go_simp; done) | (go_simp; rfl)); intro gb116 hg w3 hbox hb; have n0_ := Aside0.mk (below_step (by repeat (first | (with_reducible first | exact HB.out | apply below_alloc | apply pw_below_drewN | apply below_drew1) | exact HB.out)) hb); have n1_ := Aside0.mk (hbox); have n2_ := Aside0.mk ((by rw [hg]; exact (below_size (by repeat (first | (with_reducible first | exact HB.out | apply below_alloc | apply pw_below_drewN | apply below_drew1) | exact HB.out))) : w.heap.size ≤ gb116)); have n3_ := Aside0.mk ((by rw [hg]; exact (below_size (by repeat (first | (with_reducible first | exact HB.out | apply below_alloc | apply pw_below_drewN | apply below_drew1) | exact HB.out))) : w.heap.size ≤ gb116)); clear HB; have HB := n0_; have BK116 := n1_; have GW116 := n2_; have GE116 := n3_; clear n0_ n1_ n2_ n3_; clear hb hbox hg))
  (try simp only [Act.put, List.setIfInBounds_toArray, List.set_cons_zero, List.set_cons_succ])
  go_cut [] (fun wc => ∃ (kq : Nat) (x117000_1 : Int) (x117001_1 : ByteArray) (x117002_1 : Int), Aside0 (majordomoref11_word.j2 kq a0 (a0.size : Int) = some (r1, r2, r3)) ∧ Aside0 (kq ≤ k) ∧ Aside0 (wc.heap[gb116]? = some (.cells #[.int .i64 x117000_1, .string x117001_1, .int .i64 x117002_1] 37 (0, 0))) ∧ Aside0 (Below w.heap.size w wc))
  case first =>
    have H := HC2.out
    clear HC2
    replace H := Option.bind_eq_some_iff.mp H
    obtain ⟨t117, A40, H⟩ := H
    replace H : (if t117 = true then (some (1, a0, 0)) else ((majordomoref11_Type.f k a0).bind fun t118 => (if t118 = true then (some (2, a0, 0)) else (if (a0.size : Int) > 1 then (if 0 < (a0.size : Int) then (if (bt a0 0) = 36 then (if 1 ≤ (a0.size : Int) then ((majordomoref11_part.f k (a0.extract 1 a0.size)).bind fun t119 => (majordomoref11_word.j0 k a0 (a0.size : Int) t119)) else (none)) else (majordomoref11_word.j0 k a0 (a0.size : Int) false)) else (none)) else (majordomoref11_word.j0 k a0 (a0.size : Int) false))))) = some (r1, r2, r3) := H
    have A4 := Aside0.mk A40
    clear A40
    by_cases c5 : t117 = true
    · subst c5
      have H1 : (some (1, a0, 0)) = some (r1, r2, r3) := by rw [if_pos rfl] at H; exact H
      clear H
      have H := H1
      clear H1
      simp only [Option.some.injEq, Prod.mk.injEq] at H
      obtain ⟨rfl, rfl, rfl⟩ := H
      go_wp2_with (first | ((with_reducible refine gate_callee (f := 31) rfl ?_); refine goesL_ (some 9) rfl rfl Try.func31 (by kernel_rfl) rfl #[.string a0] rfl (by (try simp only [List.map_toArray, List.map_cons, List.map_nil]); first | done | rfl | (simp only [List.length_drop, List.length_take]; rfl)) ?_; (with_reducible refine (majordomoref11_Name.calls k a0 true _ A4.out).mono ?_); rintro e w' ⟨rfl, ⟨nd, rfl⟩⟩; refine ⟨_, rfl, ?_⟩; (try (rw [drewN_self w3]; generalize hq_ : World.drewN w3 _ = w3; have n0_ : Aside0 (w3.heap[gb116]? = some (.cells #[.int .i64 0, .string (⟨#[]⟩ : ByteArray), .int .i64 0] 37 (0, 0))) := ⟨by rw [← hq_]; exact (by (with_reducible repeat (first | refine blk_drewN ?_ _ | refine blk_drew ?_ | refine blk_alloc ?_ _)); exact BK116.out)⟩; have n1_ : Aside0 (Below w.heap.size w w3) := ⟨by rw [← hq_]; exact (by repeat (first | (with_reducible first | exact HB.out | apply below_alloc | apply pw_below_drewN | apply below_drew1 | refine below_set ?_ GE116.out) | exact HB.out))⟩; clear BK116 HB hq_; have BK116 := n0_; have HB := n1_; clear n0_ n1_)); have hcz6_0 : w3.cell? ⟨gb116, 0, none⟩ = some (.int .i64 0) := (blk_cell BK116.out 0).trans rfl; have hcz6_1 : w3.cell? ⟨gb116, 1, none⟩ = some (.string (⟨#[]⟩ : ByteArray)) := (blk_cell BK116.out 1).trans rfl; have hcz6_2 : w3.cell? ⟨gb116, 2, none⟩ = some (.int .i64 0) := (blk_cell BK116.out 2).trans rfl; have hfz6_0 := blk_frozen BK116.out 0; have hfz6_1 := blk_frozen BK116.out 1; have hfz6_2 := blk_frozen BK116.out 2))
      refine bodyPost_ret (results_cell_row rfl _ _ gb116 37 #[.int .i64 1, .string a0, .int .i64 0] (0, 0) _ rfl (by (with_reducible repeat (first | refine blk_drewN ?_ _ | refine blk_drew ?_ | refine blk_alloc ?_ _)); refine blk_put (cs := #[.int .i64 1, .string a0, .int .i64 0]) ?_ 2 _ rfl; (with_reducible repeat (first | refine blk_drewN ?_ _ | refine blk_drew ?_ | refine blk_alloc ?_ _)); refine blk_put (cs := #[.int .i64 1, .string (⟨#[]⟩ : ByteArray), .int .i64 0]) ?_ 1 _ rfl; (with_reducible repeat (first | refine blk_drewN ?_ _ | refine blk_drew ?_ | refine blk_alloc ?_ _)); refine blk_put (cs := #[.int .i64 0, .string (⟨#[]⟩ : ByteArray), .int .i64 0]) ?_ 0 _ rfl; (with_reducible repeat (first | refine blk_drewN ?_ _ | refine blk_drew ?_ | refine blk_alloc ?_ _)); exact BK116.out) Try.underlying37 rfl (by kernel_rfl)) rfl ?_
      exact ⟨by first | rfl | (simp [errW_none, errW_some] <;> rfl) | (simp [*, errW_none, errW_some] <;> rfl), by repeat (first | (with_reducible first | exact HB.out | apply below_alloc | apply pw_below_drewN | apply below_drew1 | refine below_set ?_ GE116.out) | exact HB.out)⟩
    · replace c5 := Bool.eq_false_iff.mpr c5
      subst c5
      have H1 : ((majordomoref11_Type.f k a0).bind fun t118 => (if t118 = true then (some (2, a0, 0)) else (if (a0.size : Int) > 1 then (if 0 < (a0.size : Int) then (if (bt a0 0) = 36 then (if 1 ≤ (a0.size : Int) then ((majordomoref11_part.f k (a0.extract 1 a0.size)).bind fun t119 => (majordomoref11_word.j0 k a0 (a0.size : Int) t119)) else (none)) else (majordomoref11_word.j0 k a0 (a0.size : Int) false)) else (none)) else (majordomoref11_word.j0 k a0 (a0.size : Int) false)))) = some (r1, r2, r3) := by rw [if_neg (show ¬ (false = true) by decide)] at H; exact H
      clear H
      have H := H1
      clear H1
      replace H := Option.bind_eq_some_iff.mp H
      obtain ⟨t118, A70, H⟩ := H
      replace H : (if t118 = true then (some (2, a0, 0)) else (if (a0.size : Int) > 1 then (if 0 < (a0.size : Int) then (if (bt a0 0) = 36 then (if 1 ≤ (a0.size : Int) then ((majordomoref11_part.f k (a0.extract 1 a0.size)).bind fun t119 => (majordomoref11_word.j0 k a0 (a0.size : Int) t119)) else (none)) else (majordomoref11_word.j0 k a0 (a0.size : Int) false)) else (none)) else (majordomoref11_word.j0 k a0 (a0.size : Int) false))) = some (r1, r2, r3) := H
      have A7 := Aside0.mk A70
      clear A70
      by_cases c8 : t118 = true
      · subst c8
        have H1 : (some (2, a0, 0)) = some (r1, r2, r3) := by rw [if_pos rfl] at H; exact H
        clear H
        have H := H1
        clear H1
        simp only [Option.some.injEq, Prod.mk.injEq] at H
        obtain ⟨rfl, rfl, rfl⟩ := H
        go_wp2_with (first | ((with_reducible refine gate_callee (f := 31) rfl ?_); refine goesL_ (some 9) rfl rfl Try.func31 (by kernel_rfl) rfl #[.string a0] rfl (by (try simp only [List.map_toArray, List.map_cons, List.map_nil]); first | done | rfl | (simp only [List.length_drop, List.length_take]; rfl)) ?_; (with_reducible refine (majordomoref11_Name.calls k a0 false _ A4.out).mono ?_); rintro e w' ⟨rfl, ⟨nd, rfl⟩⟩; refine ⟨_, rfl, ?_⟩; (try (rw [drewN_self w3]; generalize hq_ : World.drewN w3 _ = w3; have n0_ : Aside0 (w3.heap[gb116]? = some (.cells #[.int .i64 0, .string (⟨#[]⟩ : ByteArray), .int .i64 0] 37 (0, 0))) := ⟨by rw [← hq_]; exact (by (with_reducible repeat (first | refine blk_drewN ?_ _ | refine blk_drew ?_ | refine blk_alloc ?_ _)); exact BK116.out)⟩; have n1_ : Aside0 (Below w.heap.size w w3) := ⟨by rw [← hq_]; exact (by repeat (first | (with_reducible first | exact HB.out | apply below_alloc | apply pw_below_drewN | apply below_drew1 | refine below_set ?_ GE116.out) | exact HB.out))⟩; clear BK116 HB hq_; have BK116 := n0_; have HB := n1_; clear n0_ n1_))) | ((with_reducible refine gate_callee (f := 32) rfl ?_); refine goesL_ (some 14) rfl rfl Try.func32 (by kernel_rfl) rfl #[.string a0] rfl (by (try simp only [List.map_toArray, List.map_cons, List.map_nil]); first | done | rfl | (simp only [List.length_drop, List.length_take]; rfl)) ?_; (with_reducible refine (majordomoref11_Type.calls k a0 true _ A7.out).mono ?_); rintro e w' ⟨rfl, ⟨nd, rfl⟩⟩; refine ⟨_, rfl, ?_⟩; (try (rw [drewN_self w3]; generalize hq_ : World.drewN w3 _ = w3; have n0_ : Aside0 (w3.heap[gb116]? = some (.cells #[.int .i64 0, .string (⟨#[]⟩ : ByteArray), .int .i64 0] 37 (0, 0))) := ⟨by rw [← hq_]; exact (by (with_reducible repeat (first | refine blk_drewN ?_ _ | refine blk_drew ?_ | refine blk_alloc ?_ _)); exact BK116.out)⟩; have n1_ : Aside0 (Below w.heap.size w w3) := ⟨by rw [← hq_]; exact (by repeat (first | (with_reducible first | exact HB.out | apply below_alloc | apply pw_below_drewN | apply below_drew1 | refine below_set ?_ GE116.out) | exact HB.out))⟩; clear BK116 HB hq_; have BK116 := n0_; have HB := n1_; clear n0_ n1_)); have hcz9_0 : w3.cell? ⟨gb116, 0, none⟩ = some (.int .i64 0) := (blk_cell BK116.out 0).trans rfl; have hcz9_1 : w3.cell? ⟨gb116, 1, none⟩ = some (.string (⟨#[]⟩ : ByteArray)) := (blk_cell BK116.out 1).trans rfl; have hcz9_2 : w3.cell? ⟨gb116, 2, none⟩ = some (.int .i64 0) := (blk_cell BK116.out 2).trans rfl; have hfz9_0 := blk_frozen BK116.out 0; have hfz9_1 := blk_frozen BK116.out 1; have hfz9_2 := blk_frozen BK116.out 2))
        refine bodyPost_ret (results_cell_row rfl _ _ gb116 37 #[.int .i64 2, .string a0, .int .i64 0] (0, 0) _ rfl (by (with_reducible repeat (first | refine blk_drewN ?_ _ | refine blk_drew ?_ | refine blk_alloc ?_ _)); refine blk_put (cs := #[.int .i64 2, .string a0, .int .i64 0]) ?_ 2 _ rfl; (with_reducible repeat (first | refine blk_drewN ?_ _ | refine blk_drew ?_ | refine blk_alloc ?_ _)); refine blk_put (cs := #[.int .i64 2, .string (⟨#[]⟩ : ByteArray), .int .i64 0]) ?_ 1 _ rfl; (with_reducible repeat (first | refine blk_drewN ?_ _ | refine blk_drew ?_ | refine blk_alloc ?_ _)); refine blk_put (cs := #[.int .i64 0, .string (⟨#[]⟩ : ByteArray), .int .i64 0]) ?_ 0 _ rfl; (with_reducible repeat (first | refine blk_drewN ?_ _ | refine blk_drew ?_ | refine blk_alloc ?_ _)); exact BK116.out) Try.underlying37 rfl (by kernel_rfl)) rfl ?_
        exact ⟨by first | rfl | (simp [errW_none, errW_some] <;> rfl) | (simp [*, errW_none, errW_some] <;> rfl), by repeat (first | (with_reducible first | exact HB.out | apply below_alloc | apply pw_below_drewN | apply below_drew1 | refine below_set ?_ GE116.out) | exact HB.out)⟩
      · replace c8 := Bool.eq_false_iff.mpr c8
        subst c8
        have H1 : (if (a0.size : Int) > 1 then (if 0 < (a0.size : Int) then (if (bt a0 0) = 36 then (if 1 ≤ (a0.size : Int) then ((majordomoref11_part.f k (a0.extract 1 a0.size)).bind fun t119 => (majordomoref11_word.j0 k a0 (a0.size : Int) t119)) else (none)) else (majordomoref11_word.j0 k a0 (a0.size : Int) false)) else (none)) else (majordomoref11_word.j0 k a0 (a0.size : Int) false)) = some (r1, r2, r3) := by rw [if_neg (show ¬ (false = true) by decide)] at H; exact H
        clear H
        have H := H1
        clear H1
        have HC10 := Aside0.mk H
        clear H
        go_upto_region 6 with (first | ((with_reducible refine gate_callee (f := 31) rfl ?_); refine goesL_ (some 9) rfl rfl Try.func31 (by kernel_rfl) rfl #[.string a0] rfl (by (try simp only [List.map_toArray, List.map_cons, List.map_nil]); first | done | rfl | (simp only [List.length_drop, List.length_take]; rfl)) ?_; (with_reducible refine (majordomoref11_Name.calls k a0 false _ A4.out).mono ?_); rintro e w' ⟨rfl, ⟨nd, rfl⟩⟩; refine ⟨_, rfl, ?_⟩) | ((with_reducible refine gate_callee (f := 32) rfl ?_); refine goesL_ (some 14) rfl rfl Try.func32 (by kernel_rfl) rfl #[.string a0] rfl (by (try simp only [List.map_toArray, List.map_cons, List.map_nil]); first | done | rfl | (simp only [List.length_drop, List.length_take]; rfl)) ?_; (with_reducible refine (majordomoref11_Type.calls k a0 false _ A7.out).mono ?_); rintro e w' ⟨rfl, ⟨nd, rfl⟩⟩; refine ⟨_, rfl, ?_⟩))
        (try simp only [Act.put, List.setIfInBounds_toArray, List.set_cons_zero, List.set_cons_succ])
        go_cut [17] (fun v17 wc => ∃ (kq : Nat) (x17_9 : Bool), v17 = .bool x17_9 ∧ Aside0 (majordomoref11_word.j0 kq a0 (a0.size : Int) x17_9 = some (r1, r2, r3)) ∧ Aside0 (kq ≤ k) ∧ Aside0 (wc.heap[gb116]? = some (.cells #[.int .i64 0, .string (⟨#[]⟩ : ByteArray), .int .i64 0] 37 (0, 0))) ∧ Aside0 (Below w.heap.size w wc))
        case first =>
          have H := HC10.out
          clear HC10
          by_cases c11 : (a0.size : Int) > 1
          · rw [if_pos c11] at H
            have c11b0 : decide (1 < (a0.size : Int)) = true := decide_eq_true c11
            have c11b1 : decide (1 < a0.size) = true := decide_eq_true (by omega)
            clear c11
            (first | rw [c11b0] | (simp only [i64_w, i32_w]; rw [c11b0]) | skip)
            by_cases c12 : 0 < (a0.size : Int)
            · rw [if_pos c12] at H
              have c12b0 : decide (0 < (a0.size : Int)) = true := decide_eq_true c12
              have c12b1 : decide (0 < a0.size) = true := decide_eq_true (by omega)
              clear c12
              by_cases c14 : (bt a0 0) = 36
              · rw [if_pos c14] at H
                have c14b0 : ((bt a0 0) == 36) = true := beq_iff_eq.mpr c14
                have c14b1 : ((bt a0 0) != 36) = false := bne_eq_false_iff_eq.mpr c14
                clear c14
                by_cases c15 : 1 ≤ (a0.size : Int)
                · rw [if_pos c15] at H
                  have c15b0 := eq_true c15
                  have c15b1 : decide (1 ≤ (a0.size : Int)) = true := decide_eq_true c15
                  clear c15
                  replace H := Option.bind_eq_some_iff.mp H
                  obtain ⟨t119, A160, H⟩ := H
                  replace H : (majordomoref11_word.j0 k a0 (a0.size : Int) t119) = some (r1, r2, r3) := H
                  have A16 := Aside0.mk A160
                  clear A160
                  have H' := Aside0.mk H
                  clear H
                  have p13 : 0 ≤ (0 : Int) := (by omega)
                  have q13 : 0 < a0.size := (by have : (0 : Int) < (a0.size : Int) := of_decide_eq_true (by first | (with_reducible assumption) | assumption); omega)
                  have hx13 : ∀ h : 0 < a0.size, ((a0[0]'h).toNat : Int) = bt a0 0 := bt_at a0 0
                  clear p13
                  have qi13 : (0 < (a0.size : Int)) = True := eq_true (of_decide_eq_true (by first | (with_reducible assumption) | assumption))
                  replace q13 := eq_true q13
                  go_wp2_with (first | (go_at_call 33; (with_reducible refine (majordomoref11_part.calls k (a0.extract 1 a0.size) t119 _ A16.out).mono ?_); rintro e w' ⟨rfl, ⟨nd, rfl⟩⟩))
                  go_meet
                  case rel => exact ⟨_, (t119), (by first | rfl | (simp; done) | (simp [*]; done)), H', ⟨by first | omega | exact Nat.le_refl _⟩, ⟨by (with_reducible repeat (first | refine blk_drewN ?_ _ | refine blk_drew ?_ | refine blk_alloc ?_ _)); exact BK116.out⟩, ⟨by repeat (first | (with_reducible first | exact HB.out | apply below_alloc | apply pw_below_drewN | apply below_drew1 | refine below_set ?_ GE116.out) | exact HB.out)⟩⟩
                · rw [if_neg c15] at H
                  exact absurd H (by simp)
              · rw [if_neg c14] at H
                have c14b0 : ((bt a0 0) == 36) = false := beq_eq_false_iff_ne.mpr c14
                have c14b1 : ((bt a0 0) != 36) = true := bne_iff_ne.mpr c14
                have H' := Aside0.mk H
                clear H
                have p13 : 0 ≤ (0 : Int) := (by omega)
                have q13 : 0 < a0.size := (by have : (0 : Int) < (a0.size : Int) := of_decide_eq_true (by first | (with_reducible assumption) | assumption); omega)
                have hx13 : ∀ h : 0 < a0.size, ((a0[0]'h).toNat : Int) = bt a0 0 := bt_at a0 0
                clear p13
                have qi13 : (0 < (a0.size : Int)) = True := eq_true (of_decide_eq_true (by first | (with_reducible assumption) | assumption))
                replace q13 := eq_true q13
                go_wp2
                go_meet
                case rel => exact ⟨_, (false), (by first | rfl | (simp; done) | (simp [*]; done)), H', ⟨by first | omega | exact Nat.le_refl _⟩, ⟨by (with_reducible repeat (first | refine blk_drewN ?_ _ | refine blk_drew ?_ | refine blk_alloc ?_ _)); exact BK116.out⟩, ⟨by repeat (first | (with_reducible first | exact HB.out | apply below_alloc | apply pw_below_drewN | apply below_drew1 | refine below_set ?_ GE116.out) | exact HB.out)⟩⟩
            · rw [if_neg c12] at H
              exact absurd H (by simp)
          · rw [if_neg c11] at H
            have c11b0 : decide (1 < (a0.size : Int)) = false := decide_eq_false c11
            have c11b1 : decide (1 < a0.size) = false := decide_eq_false (by omega)
            clear c11
            (first | rw [c11b0] | (simp only [i64_w, i32_w]; rw [c11b0]) | skip)
            have H' := Aside0.mk H
            clear H
            go_wp2
            go_meet
            case rel => exact ⟨_, (false), (by first | rfl | (simp; done) | (simp [*]; done)), H', ⟨by first | omega | exact Nat.le_refl _⟩, ⟨by (with_reducible repeat (first | refine blk_drewN ?_ _ | refine blk_drew ?_ | refine blk_alloc ?_ _)); exact BK116.out⟩, ⟨by repeat (first | (with_reducible first | exact HB.out | apply below_alloc | apply pw_below_drewN | apply below_drew1 | refine below_set ?_ GE116.out) | exact HB.out)⟩⟩
        case rest =>
          clear HC10
          try clear c1
          try clear p1
          try clear q1
          try clear hx1
          try clear qi1
          try clear p2
          try clear c3
          try clear c5
          try clear c8
          try clear c11
          try clear c11b0
          try clear c11b1
          try clear c12
          try clear c12b0
          try clear c12b1
          try clear p13
          try clear q13
          try clear hx13
          try clear qi13
          try clear c14
          try clear c14b0
          try clear c14b1
          try clear c15
          try clear c15b0
          try clear c15b1
          try clear c16
          try clear hcz6_0
          try clear hcz6_1
          try clear hcz6_2
          try clear hcz9_0
          try clear hcz9_1
          try clear hcz9_2
          try clear hfz6_0
          try clear hfz6_1
          try clear hfz6_2
          try clear hfz9_0
          try clear hfz9_1
          try clear hfz9_2
          try clear p13
          try clear q13
          obtain ⟨kq, x17_9, rfl, HA, HJ9, BK116, HB⟩ := hcut
          cases kq with
          | zero => exact absurd HA.out (by simp [majordomoref11_word.j0])
          | succ kj9 =>
            have H := HA.out
            clear HA
            simp only [majordomoref11_word.j0] at H
            by_cases c17 : x17_9 = true
            · subst c17
              have H1 : (if 1 ≤ (a0.size : Int) then (some (3, a0.extract 1 a0.size, 0)) else (none)) = some (r1, r2, r3) := by rw [if_pos rfl] at H; exact H
              clear H
              have H := H1
              clear H1
              by_cases c18 : 1 ≤ (a0.size : Int)
              · rw [if_pos c18] at H
                have c18b0 := eq_true c18
                have c18b1 : decide (1 ≤ (a0.size : Int)) = true := decide_eq_true c18
                clear c18
                simp only [Option.some.injEq, Prod.mk.injEq] at H
                obtain ⟨rfl, rfl, rfl⟩ := H
                have hcz19_0 : wc.cell? ⟨gb116, 0, none⟩ = some (.int .i64 0) := (blk_cell BK116.out 0).trans rfl
                have hcz19_1 : wc.cell? ⟨gb116, 1, none⟩ = some (.string (⟨#[]⟩ : ByteArray)) := (blk_cell BK116.out 1).trans rfl
                have hcz19_2 : wc.cell? ⟨gb116, 2, none⟩ = some (.int .i64 0) := (blk_cell BK116.out 2).trans rfl
                have hfz19_0 := blk_frozen BK116.out 0
                have hfz19_1 := blk_frozen BK116.out 1
                have hfz19_2 := blk_frozen BK116.out 2
                go_wp2
                refine bodyPost_ret (results_cell_row rfl _ _ gb116 37 #[.int .i64 3, .string (a0.extract 1 a0.size), .int .i64 0] (0, 0) _ rfl (by (with_reducible repeat (first | refine blk_drewN ?_ _ | refine blk_drew ?_ | refine blk_alloc ?_ _)); refine blk_put (cs := #[.int .i64 3, .string (a0.extract 1 a0.size), .int .i64 0]) ?_ 2 _ rfl; (with_reducible repeat (first | refine blk_drewN ?_ _ | refine blk_drew ?_ | refine blk_alloc ?_ _)); refine blk_put (cs := #[.int .i64 3, .string (⟨#[]⟩ : ByteArray), .int .i64 0]) ?_ 1 _ rfl; (with_reducible repeat (first | refine blk_drewN ?_ _ | refine blk_drew ?_ | refine blk_alloc ?_ _)); refine blk_put (cs := #[.int .i64 0, .string (⟨#[]⟩ : ByteArray), .int .i64 0]) ?_ 0 _ rfl; (with_reducible repeat (first | refine blk_drewN ?_ _ | refine blk_drew ?_ | refine blk_alloc ?_ _)); exact BK116.out) Try.underlying37 rfl (by kernel_rfl)) rfl ?_
                exact ⟨by first | rfl | (simp [errW_none, errW_some] <;> rfl) | (simp [*, errW_none, errW_some] <;> rfl), by repeat (first | (with_reducible first | exact HB.out | apply below_alloc | apply pw_below_drewN | apply below_drew1 | refine below_set ?_ GE116.out) | exact HB.out)⟩
              · rw [if_neg c18] at H
                exact absurd H (by simp)
            · replace c17 := Bool.eq_false_iff.mpr c17
              subst c17
              have H1 : (if (a0.size : Int) > 1 then (if 0 < (a0.size : Int) then (if (bt a0 0) = 39 then (if 0 ≤ (wrap64 ((a0.size : Int) - 1)) then (if (wrap64 ((a0.size : Int) - 1)) < (a0.size : Int) then (majordomoref11_word.j1 kj9 a0 (a0.size : Int) ((bt a0 (wrap64 ((a0.size : Int) - 1))) == 39)) else (none)) else (none)) else (majordomoref11_word.j1 kj9 a0 (a0.size : Int) false)) else (none)) else (majordomoref11_word.j1 kj9 a0 (a0.size : Int) false)) = some (r1, r2, r3) := by rw [if_neg (show ¬ (false = true) by decide)] at H; exact H
              clear H
              have H := H1
              clear H1
              have HC20 := Aside0.mk H
              clear H
              go_upto_region 8 with (fail)
              go_cut [33] (fun v33 wc => ∃ (kq : Nat) (x33_19 : Bool), v33 = .bool x33_19 ∧ Aside0 (majordomoref11_word.j1 kq a0 (a0.size : Int) x33_19 = some (r1, r2, r3)) ∧ Aside0 (kq ≤ kj9) ∧ Aside0 (wc.heap[gb116]? = some (.cells #[.int .i64 0, .string (⟨#[]⟩ : ByteArray), .int .i64 0] 37 (0, 0))) ∧ Aside0 (Below w.heap.size w wc))
              case first =>
                have H := HC20.out
                clear HC20
                by_cases c21 : (a0.size : Int) > 1
                · rw [if_pos c21] at H
                  have c21b0 : decide (1 < (a0.size : Int)) = true := decide_eq_true c21
                  have c21b1 : decide (1 < a0.size) = true := decide_eq_true (by omega)
                  clear c21
                  (first | rw [c21b0] | (simp only [i64_w, i32_w]; rw [c21b0]) | skip)
                  by_cases c22 : 0 < (a0.size : Int)
                  · rw [if_pos c22] at H
                    have c22b0 : decide (0 < (a0.size : Int)) = true := decide_eq_true c22
                    have c22b1 : decide (0 < a0.size) = true := decide_eq_true (by omega)
                    clear c22
                    by_cases c24 : (bt a0 0) = 39
                    · rw [if_pos c24] at H
                      have c24b0 : ((bt a0 0) == 39) = true := beq_iff_eq.mpr c24
                      have c24b1 : ((bt a0 0) != 39) = false := bne_eq_false_iff_eq.mpr c24
                      clear c24
                      obtain ⟨ji25, hji25⟩ : ∃ j_ : Int, (wrap64 ((a0.size : Int) - 1)) = j_ := ⟨_, rfl⟩
                      replace H : (if 0 ≤ (ji25) then (if (ji25) < (a0.size : Int) then (majordomoref11_word.j1 kj9 a0 (a0.size : Int) ((bt a0 (ji25)) == 39)) else (none)) else (none)) = some (r1, r2, r3) := by first | (rw [hji25] at H; exact H) | (simp only [hji25] at H ⊢; exact H)
                      have hji25w : (IntKind.i64.wrap ((a0.size : Int) - 1)) = ji25 := (i64_w _).trans hji25
                      by_cases c26 : 0 ≤ (ji25)
                      · rw [if_pos c26] at H
                        have c26b0 : decide (0 ≤ (ji25)) = true := decide_eq_true c26
                        clear c26
                        by_cases c27 : (ji25) < (a0.size : Int)
                        · rw [if_pos c27] at H
                          have c27b0 : decide ((ji25) < (a0.size : Int)) = true := decide_eq_true c27
                          clear c27
                          have H' := Aside0.mk H
                          clear H
                          have p23 : 0 ≤ (0 : Int) := (by omega)
                          have q23 : 0 < a0.size := (by have : (0 : Int) < (a0.size : Int) := of_decide_eq_true (by first | (with_reducible assumption) | assumption); omega)
                          have hx23 : ∀ h : 0 < a0.size, ((a0[0]'h).toNat : Int) = bt a0 0 := bt_at a0 0
                          clear p23
                          have qi23 : (0 < (a0.size : Int)) = True := eq_true (of_decide_eq_true (by first | (with_reducible assumption) | assumption))
                          replace q23 := eq_true q23
                          have p28 : 0 ≤ ((ji25) : Int) := of_decide_eq_true (by first | (with_reducible assumption) | assumption)
                          have q28 : (ji25) < (a0.size : Int) := of_decide_eq_true (by first | (with_reducible assumption) | assumption)
                          have hx28 := bt_at a0 (ji25)
                          replace p28 := eq_true p28
                          replace q28 := eq_true q28
                          go_wp2
                          go_meet
                          case rel => exact ⟨_, (((bt a0 (ji25)) == 39)), (by first | rfl | (simp; done) | (simp only [← hji25] <;> (first | rfl | simp)) | (simp [*]; done)), H', ⟨by have := HJ9.out; first | omega | exact Nat.le_refl _⟩, ⟨by (with_reducible repeat (first | refine blk_drewN ?_ _ | refine blk_drew ?_ | refine blk_alloc ?_ _)); exact BK116.out⟩, ⟨by repeat (first | (with_reducible first | exact HB.out | apply below_alloc | apply pw_below_drewN | apply below_drew1 | refine below_set ?_ GE116.out) | exact HB.out)⟩⟩
                        · rw [if_neg c27] at H
                          exact absurd H (by simp)
                      · rw [if_neg c26] at H
                        exact absurd H (by simp)
                    · rw [if_neg c24] at H
                      have c24b0 : ((bt a0 0) == 39) = false := beq_eq_false_iff_ne.mpr c24
                      have c24b1 : ((bt a0 0) != 39) = true := bne_iff_ne.mpr c24
                      have H' := Aside0.mk H
                      clear H
                      have p23 : 0 ≤ (0 : Int) := (by omega)
                      have q23 : 0 < a0.size := (by have : (0 : Int) < (a0.size : Int) := of_decide_eq_true (by first | (with_reducible assumption) | assumption); omega)
                      have hx23 : ∀ h : 0 < a0.size, ((a0[0]'h).toNat : Int) = bt a0 0 := bt_at a0 0
                      clear p23
                      have qi23 : (0 < (a0.size : Int)) = True := eq_true (of_decide_eq_true (by first | (with_reducible assumption) | assumption))
                      replace q23 := eq_true q23
                      go_wp2
                      go_meet
                      case rel => exact ⟨_, (false), (by first | rfl | (simp; done) | (simp [*]; done)), H', ⟨by have := HJ9.out; first | omega | exact Nat.le_refl _⟩, ⟨by (with_reducible repeat (first | refine blk_drewN ?_ _ | refine blk_drew ?_ | refine blk_alloc ?_ _)); exact BK116.out⟩, ⟨by repeat (first | (with_reducible first | exact HB.out | apply below_alloc | apply pw_below_drewN | apply below_drew1 | refine below_set ?_ GE116.out) | exact HB.out)⟩⟩
                  · rw [if_neg c22] at H
                    exact absurd H (by simp)
                · rw [if_neg c21] at H
                  have c21b0 : decide (1 < (a0.size : Int)) = false := decide_eq_false c21
                  have c21b1 : decide (1 < a0.size) = false := decide_eq_false (by omega)
                  clear c21
                  (first | rw [c21b0] | (simp only [i64_w, i32_w]; rw [c21b0]) | skip)
                  have H' := Aside0.mk H
                  clear H
                  go_wp2
                  go_meet
                  case rel => exact ⟨_, (false), (by first | rfl | (simp; done) | (simp [*]; done)), H', ⟨by have := HJ9.out; first | omega | exact Nat.le_refl _⟩, ⟨by (with_reducible repeat (first | refine blk_drewN ?_ _ | refine blk_drew ?_ | refine blk_alloc ?_ _)); exact BK116.out⟩, ⟨by repeat (first | (with_reducible first | exact HB.out | apply below_alloc | apply pw_below_drewN | apply below_drew1 | refine below_set ?_ GE116.out) | exact HB.out)⟩⟩
              case rest =>
                clear HC20
                try clear c1
                try clear p1
                try clear q1
                try clear hx1
                try clear qi1
                try clear c2
                try clear p2
                try clear q2
                try clear hx2
                try clear qi2
                try clear c3
                try clear c5
                try clear p6
                try clear c8
                try clear c11
                try clear c11b0
                try clear c11b1
                try clear c12
                try clear c12b0
                try clear c12b1
                try clear p13
                try clear q13
                try clear hx13
                try clear qi13
                try clear c14
                try clear c14b0
                try clear c14b1
                try clear c15
                try clear c15b0
                try clear c15b1
                try clear c16
                try clear c17
                try clear c18
                try clear c18b0
                try clear c18b1
                try clear c21
                try clear c21b0
                try clear c21b1
                try clear c22
                try clear c22b0
                try clear c22b1
                try clear p23
                try clear q23
                try clear hx23
                try clear qi23
                try clear c24
                try clear c24b0
                try clear c24b1
                try clear c26
                try clear c26b0
                try clear c27
                try clear c27b0
                try clear p28
                try clear q28
                try clear hx28
                try clear hcz19_0
                try clear hcz19_1
                try clear hcz19_2
                try clear hcz6_0
                try clear hcz6_1
                try clear hcz6_2
                try clear hcz9_0
                try clear hcz9_1
                try clear hcz9_2
                try clear hfz19_0
                try clear hfz19_1
                try clear hfz19_2
                try clear hfz6_0
                try clear hfz6_1
                try clear hfz6_2
                try clear hfz9_0
                try clear hfz9_1
                try clear hfz9_2
                try clear p1
                try clear p13
                try clear p2
                try clear p23
                try clear p28
                try clear q1
                try clear q13
                try clear q23
                try clear q28
                obtain ⟨kq, x33_19, rfl, HA, HJ19, BK116, HB⟩ := hcut
                cases kq with
                | zero => exact absurd HA.out (by simp [majordomoref11_word.j1])
                | succ kj19 =>
                  have H := HA.out
                  clear HA
                  simp only [majordomoref11_word.j1] at H
                  by_cases c29 : x33_19 = true
                  · subst c29
                    have H1 : (if 1 ≤ (wrap64 ((a0.size : Int) - 1)) then (if (wrap64 ((a0.size : Int) - 1)) ≤ (a0.size : Int) then (some (4, a0.extract 1 ((wrap64 ((a0.size : Int) - 1)) : Int).toNat, 0)) else (none)) else (none)) = some (r1, r2, r3) := by rw [if_pos rfl] at H; exact H
                    clear H
                    have H := H1
                    clear H1
                    by_cases c30 : 1 ≤ (wrap64 ((a0.size : Int) - 1))
                    · rw [if_pos c30] at H
                      have c30b0 := eq_true c30
                      have c30b1 : decide (1 ≤ (wrap64 ((a0.size : Int) - 1))) = true := decide_eq_true c30
                      clear c30
                      by_cases c31 : (wrap64 ((a0.size : Int) - 1)) ≤ (a0.size : Int)
                      · rw [if_pos c31] at H
                        have c31b0 := eq_true c31
                        have c31b1 : decide ((wrap64 ((a0.size : Int) - 1)) ≤ (a0.size : Int)) = true := decide_eq_true c31
                        clear c31
                        simp only [Option.some.injEq, Prod.mk.injEq] at H
                        obtain ⟨rfl, rfl, rfl⟩ := H
                        have hcz32_0 : wc.cell? ⟨gb116, 0, none⟩ = some (.int .i64 0) := (blk_cell BK116.out 0).trans rfl
                        have hcz32_1 : wc.cell? ⟨gb116, 1, none⟩ = some (.string (⟨#[]⟩ : ByteArray)) := (blk_cell BK116.out 1).trans rfl
                        have hcz32_2 : wc.cell? ⟨gb116, 2, none⟩ = some (.int .i64 0) := (blk_cell BK116.out 2).trans rfl
                        have hfz32_0 := blk_frozen BK116.out 0
                        have hfz32_1 := blk_frozen BK116.out 1
                        have hfz32_2 := blk_frozen BK116.out 2
                        go_wp2
                        refine bodyPost_ret (results_cell_row rfl _ _ gb116 37 #[.int .i64 4, .string (a0.extract 1 ((wrap64 ((a0.size : Int) - 1)) : Int).toNat), .int .i64 0] (0, 0) _ rfl (by (with_reducible repeat (first | refine blk_drewN ?_ _ | refine blk_drew ?_ | refine blk_alloc ?_ _)); refine blk_put (cs := #[.int .i64 4, .string (a0.extract 1 ((wrap64 ((a0.size : Int) - 1)) : Int).toNat), .int .i64 0]) ?_ 2 _ rfl; (with_reducible repeat (first | refine blk_drewN ?_ _ | refine blk_drew ?_ | refine blk_alloc ?_ _)); refine blk_put (cs := #[.int .i64 4, .string (⟨#[]⟩ : ByteArray), .int .i64 0]) ?_ 1 _ rfl; (with_reducible repeat (first | refine blk_drewN ?_ _ | refine blk_drew ?_ | refine blk_alloc ?_ _)); refine blk_put (cs := #[.int .i64 0, .string (⟨#[]⟩ : ByteArray), .int .i64 0]) ?_ 0 _ rfl; (with_reducible repeat (first | refine blk_drewN ?_ _ | refine blk_drew ?_ | refine blk_alloc ?_ _)); exact BK116.out) Try.underlying37 rfl (by kernel_rfl)) rfl ?_
                        exact ⟨by first | rfl | (simp [errW_none, errW_some] <;> rfl) | (simp [*, errW_none, errW_some] <;> rfl), by repeat (first | (with_reducible first | exact HB.out | apply below_alloc | apply pw_below_drewN | apply below_drew1 | refine below_set ?_ GE116.out) | exact HB.out)⟩
                      · rw [if_neg c31] at H
                        exact absurd H (by simp)
                    · rw [if_neg c30] at H
                      exact absurd H (by simp)
                  · replace c29 := Bool.eq_false_iff.mpr c29
                    subst c29
                    have H1 : (if (a0.size : Int) > 1 then (if 0 < (a0.size : Int) then (if (bt a0 0) = 34 then (if 0 ≤ (wrap64 ((a0.size : Int) - 1)) then (if (wrap64 ((a0.size : Int) - 1)) < (a0.size : Int) then (if (bt a0 (wrap64 ((a0.size : Int) - 1))) = 34 then (if 1 ≤ (wrap64 ((a0.size : Int) - 1)) then (if (wrap64 ((a0.size : Int) - 1)) ≤ (a0.size : Int) then (some (5, a0.extract 1 ((wrap64 ((a0.size : Int) - 1)) : Int).toNat, 0)) else (none)) else (none)) else (majordomoref11_word.j2 kj19 a0 (a0.size : Int))) else (none)) else (none)) else (majordomoref11_word.j2 kj19 a0 (a0.size : Int))) else (none)) else (majordomoref11_word.j2 kj19 a0 (a0.size : Int))) = some (r1, r2, r3) := by rw [if_neg (show ¬ (false = true) by decide)] at H; exact H
                    clear H
                    have H := H1
                    clear H1
                    by_cases c33 : (a0.size : Int) > 1
                    · rw [if_pos c33] at H
                      have c33b0 : decide (1 < (a0.size : Int)) = true := decide_eq_true c33
                      have c33b1 : decide (1 < a0.size) = true := decide_eq_true (by omega)
                      clear c33
                      by_cases c34 : 0 < (a0.size : Int)
                      · rw [if_pos c34] at H
                        have c34b0 : decide (0 < (a0.size : Int)) = true := decide_eq_true c34
                        have c34b1 : decide (0 < a0.size) = true := decide_eq_true (by omega)
                        clear c34
                        by_cases c36 : (bt a0 0) = 34
                        · rw [if_pos c36] at H
                          have c36b0 : ((bt a0 0) == 34) = true := beq_iff_eq.mpr c36
                          have c36b1 : ((bt a0 0) != 34) = false := bne_eq_false_iff_eq.mpr c36
                          clear c36
                          obtain ⟨ji37, hji37⟩ : ∃ j_ : Int, (wrap64 ((a0.size : Int) - 1)) = j_ := ⟨_, rfl⟩
                          replace H : (if 0 ≤ (ji37) then (if (ji37) < (a0.size : Int) then (if (bt a0 (ji37)) = 34 then (if 1 ≤ (ji37) then (if (ji37) ≤ (a0.size : Int) then (some (5, a0.extract 1 ((ji37) : Int).toNat, 0)) else (none)) else (none)) else (majordomoref11_word.j2 kj19 a0 (a0.size : Int))) else (none)) else (none)) = some (r1, r2, r3) := by first | (rw [hji37] at H; exact H) | (simp only [hji37] at H ⊢; exact H)
                          have hji37w : (IntKind.i64.wrap ((a0.size : Int) - 1)) = ji37 := (i64_w _).trans hji37
                          by_cases c38 : 0 ≤ (ji37)
                          · rw [if_pos c38] at H
                            have c38b0 : decide (0 ≤ (ji37)) = true := decide_eq_true c38
                            clear c38
                            by_cases c39 : (ji37) < (a0.size : Int)
                            · rw [if_pos c39] at H
                              have c39b0 : decide ((ji37) < (a0.size : Int)) = true := decide_eq_true c39
                              clear c39
                              by_cases c41 : (bt a0 (ji37)) = 34
                              · rw [if_pos c41] at H
                                have c41b0 : ((bt a0 (ji37)) == 34) = true := beq_iff_eq.mpr c41
                                have c41b1 : ((bt a0 (ji37)) != 34) = false := bne_eq_false_iff_eq.mpr c41
                                clear c41
                                by_cases c42 : 1 ≤ (ji37)
                                · rw [if_pos c42] at H
                                  have c42b0 := eq_true c42
                                  have c42b1 : decide (1 ≤ (ji37)) = true := decide_eq_true c42
                                  clear c42
                                  by_cases c43 : (ji37) ≤ (a0.size : Int)
                                  · rw [if_pos c43] at H
                                    have c43b0 := eq_true c43
                                    have c43b1 : decide ((ji37) ≤ (a0.size : Int)) = true := decide_eq_true c43
                                    clear c43
                                    simp only [Option.some.injEq, Prod.mk.injEq] at H
                                    obtain ⟨rfl, rfl, rfl⟩ := H
                                    have p35 : 0 ≤ (0 : Int) := (by omega)
                                    have q35 : 0 < a0.size := (by have : (0 : Int) < (a0.size : Int) := of_decide_eq_true (by first | (with_reducible assumption) | assumption); omega)
                                    have hx35 : ∀ h : 0 < a0.size, ((a0[0]'h).toNat : Int) = bt a0 0 := bt_at a0 0
                                    clear p35
                                    have qi35 : (0 < (a0.size : Int)) = True := eq_true (of_decide_eq_true (by first | (with_reducible assumption) | assumption))
                                    replace q35 := eq_true q35
                                    have p40 : 0 ≤ ((ji37) : Int) := of_decide_eq_true (by first | (with_reducible assumption) | assumption)
                                    have q40 : (ji37) < (a0.size : Int) := of_decide_eq_true (by first | (with_reducible assumption) | assumption)
                                    have hx40 := bt_at a0 (ji37)
                                    replace p40 := eq_true p40
                                    replace q40 := eq_true q40
                                    have hcz44_0 : wc.cell? ⟨gb116, 0, none⟩ = some (.int .i64 0) := (blk_cell BK116.out 0).trans rfl
                                    have hcz44_1 : wc.cell? ⟨gb116, 1, none⟩ = some (.string (⟨#[]⟩ : ByteArray)) := (blk_cell BK116.out 1).trans rfl
                                    have hcz44_2 : wc.cell? ⟨gb116, 2, none⟩ = some (.int .i64 0) := (blk_cell BK116.out 2).trans rfl
                                    have hfz44_0 := blk_frozen BK116.out 0
                                    have hfz44_1 := blk_frozen BK116.out 1
                                    have hfz44_2 := blk_frozen BK116.out 2
                                    go_wp2
                                    refine bodyPost_ret (results_cell_row rfl _ _ gb116 37 #[.int .i64 5, .string (a0.extract 1 ((ji37) : Int).toNat), .int .i64 0] (0, 0) _ rfl (by (with_reducible repeat (first | refine blk_drewN ?_ _ | refine blk_drew ?_ | refine blk_alloc ?_ _)); refine blk_put (cs := #[.int .i64 5, .string (a0.extract 1 ((ji37) : Int).toNat), .int .i64 0]) ?_ 2 _ rfl; (with_reducible repeat (first | refine blk_drewN ?_ _ | refine blk_drew ?_ | refine blk_alloc ?_ _)); refine blk_put (cs := #[.int .i64 5, .string (⟨#[]⟩ : ByteArray), .int .i64 0]) ?_ 1 _ rfl; (with_reducible repeat (first | refine blk_drewN ?_ _ | refine blk_drew ?_ | refine blk_alloc ?_ _)); refine blk_put (cs := #[.int .i64 0, .string (⟨#[]⟩ : ByteArray), .int .i64 0]) ?_ 0 _ rfl; (with_reducible repeat (first | refine blk_drewN ?_ _ | refine blk_drew ?_ | refine blk_alloc ?_ _)); exact BK116.out) Try.underlying37 rfl (by kernel_rfl)) rfl ?_
                                    exact ⟨by first | rfl | (simp [errW_none, errW_some] <;> rfl) | (simp only [← hji37]; first | rfl | (simp [errW_none, errW_some] <;> rfl)) | (simp [*, errW_none, errW_some] <;> rfl), by repeat (first | (with_reducible first | exact HB.out | apply below_alloc | apply pw_below_drewN | apply below_drew1 | refine below_set ?_ GE116.out) | exact HB.out)⟩
                                  · rw [if_neg c43] at H
                                    exact absurd H (by simp)
                                · rw [if_neg c42] at H
                                  exact absurd H (by simp)
                              · rw [if_neg c41] at H
                                have c41b0 : ((bt a0 (ji37)) == 34) = false := beq_eq_false_iff_ne.mpr c41
                                have c41b1 : ((bt a0 (ji37)) != 34) = true := bne_iff_ne.mpr c41
                                have H' := Aside0.mk H
                                clear H
                                have p35 : 0 ≤ (0 : Int) := (by omega)
                                have q35 : 0 < a0.size := (by have : (0 : Int) < (a0.size : Int) := of_decide_eq_true (by first | (with_reducible assumption) | assumption); omega)
                                have hx35 : ∀ h : 0 < a0.size, ((a0[0]'h).toNat : Int) = bt a0 0 := bt_at a0 0
                                clear p35
                                have qi35 : (0 < (a0.size : Int)) = True := eq_true (of_decide_eq_true (by first | (with_reducible assumption) | assumption))
                                replace q35 := eq_true q35
                                have p40 : 0 ≤ ((ji37) : Int) := of_decide_eq_true (by first | (with_reducible assumption) | assumption)
                                have q40 : (ji37) < (a0.size : Int) := of_decide_eq_true (by first | (with_reducible assumption) | assumption)
                                have hx40 := bt_at a0 (ji37)
                                replace p40 := eq_true p40
                                replace q40 := eq_true q40
                                go_wp2
                                go_meet
                                case rel => exact ⟨_, (0), ((⟨#[]⟩ : ByteArray)), (0), H', ⟨by have := HJ9.out; have := HJ19.out; first | omega | exact Nat.le_refl _⟩, ⟨by (with_reducible repeat (first | refine blk_drewN ?_ _ | refine blk_drew ?_ | refine blk_alloc ?_ _)); exact BK116.out⟩, ⟨by repeat (first | (with_reducible first | exact HB.out | apply below_alloc | apply pw_below_drewN | apply below_drew1 | refine below_set ?_ GE116.out) | exact HB.out)⟩⟩
                            · rw [if_neg c39] at H
                              exact absurd H (by simp)
                          · rw [if_neg c38] at H
                            exact absurd H (by simp)
                        · rw [if_neg c36] at H
                          have c36b0 : ((bt a0 0) == 34) = false := beq_eq_false_iff_ne.mpr c36
                          have c36b1 : ((bt a0 0) != 34) = true := bne_iff_ne.mpr c36
                          have H' := Aside0.mk H
                          clear H
                          have p35 : 0 ≤ (0 : Int) := (by omega)
                          have q35 : 0 < a0.size := (by have : (0 : Int) < (a0.size : Int) := of_decide_eq_true (by first | (with_reducible assumption) | assumption); omega)
                          have hx35 : ∀ h : 0 < a0.size, ((a0[0]'h).toNat : Int) = bt a0 0 := bt_at a0 0
                          clear p35
                          have qi35 : (0 < (a0.size : Int)) = True := eq_true (of_decide_eq_true (by first | (with_reducible assumption) | assumption))
                          replace q35 := eq_true q35
                          go_wp2
                          go_meet
                          case rel => exact ⟨_, (0), ((⟨#[]⟩ : ByteArray)), (0), H', ⟨by have := HJ9.out; have := HJ19.out; first | omega | exact Nat.le_refl _⟩, ⟨by (with_reducible repeat (first | refine blk_drewN ?_ _ | refine blk_drew ?_ | refine blk_alloc ?_ _)); exact BK116.out⟩, ⟨by repeat (first | (with_reducible first | exact HB.out | apply below_alloc | apply pw_below_drewN | apply below_drew1 | refine below_set ?_ GE116.out) | exact HB.out)⟩⟩
                      · rw [if_neg c34] at H
                        exact absurd H (by simp)
                    · rw [if_neg c33] at H
                      have c33b0 : decide (1 < (a0.size : Int)) = false := decide_eq_false c33
                      have c33b1 : decide (1 < a0.size) = false := decide_eq_false (by omega)
                      clear c33
                      have H' := Aside0.mk H
                      clear H
                      go_wp2
                      go_meet
                      case rel => exact ⟨_, (0), ((⟨#[]⟩ : ByteArray)), (0), H', ⟨by have := HJ9.out; have := HJ19.out; first | omega | exact Nat.le_refl _⟩, ⟨by (with_reducible repeat (first | refine blk_drewN ?_ _ | refine blk_drew ?_ | refine blk_alloc ?_ _)); exact BK116.out⟩, ⟨by repeat (first | (with_reducible first | exact HB.out | apply below_alloc | apply pw_below_drewN | apply below_drew1 | refine below_set ?_ GE116.out) | exact HB.out)⟩⟩
  case rest =>
    clear HC2
    try clear c1
    try clear p1
    try clear q1
    try clear hx1
    try clear qi1
    try clear c2
    try clear p2
    try clear q2
    try clear hx2
    try clear qi2
    try clear c3
    try clear p3
    try clear q3
    try clear hx3
    try clear qi3
    try clear c4
    try clear p4
    try clear q4
    try clear hx4
    try clear c5
    try clear p6
    try clear c8
    try clear c11
    try clear c11b0
    try clear c11b1
    try clear c12
    try clear c12b0
    try clear c12b1
    try clear p13
    try clear q13
    try clear hx13
    try clear qi13
    try clear c14
    try clear c14b0
    try clear c14b1
    try clear c15
    try clear c15b0
    try clear c15b1
    try clear c16
    try clear c17
    try clear c18
    try clear c18b0
    try clear c18b1
    try clear c21
    try clear c21b0
    try clear c21b1
    try clear c22
    try clear c22b0
    try clear c22b1
    try clear p23
    try clear q23
    try clear hx23
    try clear qi23
    try clear c24
    try clear c24b0
    try clear c24b1
    try clear c26
    try clear c26b0
    try clear c27
    try clear c27b0
    try clear p28
    try clear q28
    try clear hx28
    try clear c29
    try clear c30
    try clear c30b0
    try clear c30b1
    try clear c31
    try clear c31b0
    try clear c31b1
    try clear c32
    try clear c33
    try clear c33b0
    try clear c33b1
    try clear c34
    try clear c34b0
    try clear c34b1
    try clear p35
    try clear q35
    try clear hx35
    try clear qi35
    try clear c36
    try clear c36b0
    try clear c36b1
    try clear c38
    try clear c38b0
    try clear c39
    try clear c39b0
    try clear p40
    try clear q40
    try clear hx40
    try clear c41
    try clear c41b0
    try clear c41b1
    try clear c42
    try clear c42b0
    try clear c42b1
    try clear c43
    try clear c43b0
    try clear c43b1
    try clear hcz19_0
    try clear hcz19_1
    try clear hcz19_2
    try clear hcz32_0
    try clear hcz32_1
    try clear hcz32_2
    try clear hcz44_0
    try clear hcz44_1
    try clear hcz44_2
    try clear hcz6_0
    try clear hcz6_1
    try clear hcz6_2
    try clear hcz9_0
    try clear hcz9_1
    try clear hcz9_2
    try clear hfz19_0
    try clear hfz19_1
    try clear hfz19_2
    try clear hfz32_0
    try clear hfz32_1
    try clear hfz32_2
    try clear hfz44_0
    try clear hfz44_1
    try clear hfz44_2
    try clear hfz6_0
    try clear hfz6_1
    try clear hfz6_2
    try clear hfz9_0
    try clear hfz9_1
    try clear hfz9_2
    try clear p1
    try clear p13
    try clear p2
    try clear p23
    try clear p28
    try clear p35
    try clear p40
    try clear p6
    try clear q1
    try clear q13
    try clear q2
    try clear q23
    try clear q28
    try clear q35
    try clear q40
    obtain ⟨kq, x117000_1, x117001_1, x117002_1, HA, HJ1, BK116, HB⟩ := hcut
    cases kq with
    | zero => exact absurd HA.out (by simp [majordomoref11_word.j2])
    | succ kj1 =>
      have H := HA.out
      clear HA
      simp only [majordomoref11_word.j2] at H
      by_cases c45 : a0.toList = ([123] : List UInt8)
      · rw [if_pos c45] at H
        have c45b0 : (a0.toList == ([123] : List UInt8)) = true := beq_iff_eq.mpr c45
        have c45b1 : (a0.toList != ([123] : List UInt8)) = false := bne_eq_false_iff_eq.mpr c45
        clear c45
        simp only [Option.some.injEq, Prod.mk.injEq] at H
        obtain ⟨rfl, rfl, rfl⟩ := H
        have hcz46_0 : wc.cell? ⟨gb116, 0, none⟩ = some (.int .i64 x117000_1) := (blk_cell BK116.out 0).trans rfl
        have hcz46_1 : wc.cell? ⟨gb116, 1, none⟩ = some (.string x117001_1) := (blk_cell BK116.out 1).trans rfl
        have hcz46_2 : wc.cell? ⟨gb116, 2, none⟩ = some (.int .i64 x117002_1) := (blk_cell BK116.out 2).trans rfl
        have hfz46_0 := blk_frozen BK116.out 0
        have hfz46_1 := blk_frozen BK116.out 1
        have hfz46_2 := blk_frozen BK116.out 2
        go_wp2
        refine bodyPost_ret (results_cell_row rfl _ _ gb116 37 #[.int .i64 7, .string a0, .int .i64 0] (0, 0) _ rfl (by (with_reducible repeat (first | refine blk_drewN ?_ _ | refine blk_drew ?_ | refine blk_alloc ?_ _)); refine blk_put (cs := #[.int .i64 7, .string a0, .int .i64 x117002_1]) ?_ 2 _ rfl; (with_reducible repeat (first | refine blk_drewN ?_ _ | refine blk_drew ?_ | refine blk_alloc ?_ _)); refine blk_put (cs := #[.int .i64 7, .string x117001_1, .int .i64 x117002_1]) ?_ 1 _ rfl; (with_reducible repeat (first | refine blk_drewN ?_ _ | refine blk_drew ?_ | refine blk_alloc ?_ _)); refine blk_put (cs := #[.int .i64 x117000_1, .string x117001_1, .int .i64 x117002_1]) ?_ 0 _ rfl; (with_reducible repeat (first | refine blk_drewN ?_ _ | refine blk_drew ?_ | refine blk_alloc ?_ _)); exact BK116.out) Try.underlying37 rfl (by kernel_rfl)) rfl ?_
        exact ⟨by first | rfl | (simp [errW_none, errW_some] <;> rfl) | (simp [*, errW_none, errW_some] <;> rfl), by repeat (first | (with_reducible first | exact HB.out | apply below_alloc | apply pw_below_drewN | apply below_drew1 | refine below_set ?_ GE116.out) | exact HB.out)⟩
      · rw [if_neg c45] at H
        have c45b0 : (a0.toList == ([123] : List UInt8)) = false := beq_eq_false_iff_ne.mpr c45
        have c45b1 : (a0.toList != ([123] : List UInt8)) = true := bne_iff_ne.mpr c45
        by_cases c47 : a0.toList = ([125] : List UInt8)
        · rw [if_pos c47] at H
          have c47b0 : (a0.toList == ([125] : List UInt8)) = true := beq_iff_eq.mpr c47
          have c47b1 : (a0.toList != ([125] : List UInt8)) = false := bne_eq_false_iff_eq.mpr c47
          clear c47
          simp only [Option.some.injEq, Prod.mk.injEq] at H
          obtain ⟨rfl, rfl, rfl⟩ := H
          have hcz48_0 : wc.cell? ⟨gb116, 0, none⟩ = some (.int .i64 x117000_1) := (blk_cell BK116.out 0).trans rfl
          have hcz48_1 : wc.cell? ⟨gb116, 1, none⟩ = some (.string x117001_1) := (blk_cell BK116.out 1).trans rfl
          have hcz48_2 : wc.cell? ⟨gb116, 2, none⟩ = some (.int .i64 x117002_1) := (blk_cell BK116.out 2).trans rfl
          have hfz48_0 := blk_frozen BK116.out 0
          have hfz48_1 := blk_frozen BK116.out 1
          have hfz48_2 := blk_frozen BK116.out 2
          go_wp2
          refine bodyPost_ret (results_cell_row rfl _ _ gb116 37 #[.int .i64 7, .string a0, .int .i64 0] (0, 0) _ rfl (by (with_reducible repeat (first | refine blk_drewN ?_ _ | refine blk_drew ?_ | refine blk_alloc ?_ _)); refine blk_put (cs := #[.int .i64 7, .string a0, .int .i64 x117002_1]) ?_ 2 _ rfl; (with_reducible repeat (first | refine blk_drewN ?_ _ | refine blk_drew ?_ | refine blk_alloc ?_ _)); refine blk_put (cs := #[.int .i64 7, .string x117001_1, .int .i64 x117002_1]) ?_ 1 _ rfl; (with_reducible repeat (first | refine blk_drewN ?_ _ | refine blk_drew ?_ | refine blk_alloc ?_ _)); refine blk_put (cs := #[.int .i64 x117000_1, .string x117001_1, .int .i64 x117002_1]) ?_ 0 _ rfl; (with_reducible repeat (first | refine blk_drewN ?_ _ | refine blk_drew ?_ | refine blk_alloc ?_ _)); exact BK116.out) Try.underlying37 rfl (by kernel_rfl)) rfl ?_
          exact ⟨by first | rfl | (simp [errW_none, errW_some] <;> rfl) | (simp [*, errW_none, errW_some] <;> rfl), by repeat (first | (with_reducible first | exact HB.out | apply below_alloc | apply pw_below_drewN | apply below_drew1 | refine below_set ?_ GE116.out) | exact HB.out)⟩
        · rw [if_neg c47] at H
          have c47b0 : (a0.toList == ([125] : List UInt8)) = false := beq_eq_false_iff_ne.mpr c47
          have c47b1 : (a0.toList != ([125] : List UInt8)) = true := bne_iff_ne.mpr c47
          by_cases c49 : a0.toList = ([40] : List UInt8)
          · rw [if_pos c49] at H
            have c49b0 : (a0.toList == ([40] : List UInt8)) = true := beq_iff_eq.mpr c49
            have c49b1 : (a0.toList != ([40] : List UInt8)) = false := bne_eq_false_iff_eq.mpr c49
            clear c49
            simp only [Option.some.injEq, Prod.mk.injEq] at H
            obtain ⟨rfl, rfl, rfl⟩ := H
            have hcz50_0 : wc.cell? ⟨gb116, 0, none⟩ = some (.int .i64 x117000_1) := (blk_cell BK116.out 0).trans rfl
            have hcz50_1 : wc.cell? ⟨gb116, 1, none⟩ = some (.string x117001_1) := (blk_cell BK116.out 1).trans rfl
            have hcz50_2 : wc.cell? ⟨gb116, 2, none⟩ = some (.int .i64 x117002_1) := (blk_cell BK116.out 2).trans rfl
            have hfz50_0 := blk_frozen BK116.out 0
            have hfz50_1 := blk_frozen BK116.out 1
            have hfz50_2 := blk_frozen BK116.out 2
            go_wp2
            refine bodyPost_ret (results_cell_row rfl _ _ gb116 37 #[.int .i64 7, .string a0, .int .i64 0] (0, 0) _ rfl (by (with_reducible repeat (first | refine blk_drewN ?_ _ | refine blk_drew ?_ | refine blk_alloc ?_ _)); refine blk_put (cs := #[.int .i64 7, .string a0, .int .i64 x117002_1]) ?_ 2 _ rfl; (with_reducible repeat (first | refine blk_drewN ?_ _ | refine blk_drew ?_ | refine blk_alloc ?_ _)); refine blk_put (cs := #[.int .i64 7, .string x117001_1, .int .i64 x117002_1]) ?_ 1 _ rfl; (with_reducible repeat (first | refine blk_drewN ?_ _ | refine blk_drew ?_ | refine blk_alloc ?_ _)); refine blk_put (cs := #[.int .i64 x117000_1, .string x117001_1, .int .i64 x117002_1]) ?_ 0 _ rfl; (with_reducible repeat (first | refine blk_drewN ?_ _ | refine blk_drew ?_ | refine blk_alloc ?_ _)); exact BK116.out) Try.underlying37 rfl (by kernel_rfl)) rfl ?_
            exact ⟨by first | rfl | (simp [errW_none, errW_some] <;> rfl) | (simp [*, errW_none, errW_some] <;> rfl), by repeat (first | (with_reducible first | exact HB.out | apply below_alloc | apply pw_below_drewN | apply below_drew1 | refine below_set ?_ GE116.out) | exact HB.out)⟩
          · rw [if_neg c49] at H
            have c49b0 : (a0.toList == ([40] : List UInt8)) = false := beq_eq_false_iff_ne.mpr c49
            have c49b1 : (a0.toList != ([40] : List UInt8)) = true := bne_iff_ne.mpr c49
            by_cases c51 : a0.toList = ([41] : List UInt8)
            · rw [if_pos c51] at H
              have c51b0 : (a0.toList == ([41] : List UInt8)) = true := beq_iff_eq.mpr c51
              have c51b1 : (a0.toList != ([41] : List UInt8)) = false := bne_eq_false_iff_eq.mpr c51
              clear c51
              simp only [Option.some.injEq, Prod.mk.injEq] at H
              obtain ⟨rfl, rfl, rfl⟩ := H
              have hcz52_0 : wc.cell? ⟨gb116, 0, none⟩ = some (.int .i64 x117000_1) := (blk_cell BK116.out 0).trans rfl
              have hcz52_1 : wc.cell? ⟨gb116, 1, none⟩ = some (.string x117001_1) := (blk_cell BK116.out 1).trans rfl
              have hcz52_2 : wc.cell? ⟨gb116, 2, none⟩ = some (.int .i64 x117002_1) := (blk_cell BK116.out 2).trans rfl
              have hfz52_0 := blk_frozen BK116.out 0
              have hfz52_1 := blk_frozen BK116.out 1
              have hfz52_2 := blk_frozen BK116.out 2
              go_wp2
              refine bodyPost_ret (results_cell_row rfl _ _ gb116 37 #[.int .i64 7, .string a0, .int .i64 0] (0, 0) _ rfl (by (with_reducible repeat (first | refine blk_drewN ?_ _ | refine blk_drew ?_ | refine blk_alloc ?_ _)); refine blk_put (cs := #[.int .i64 7, .string a0, .int .i64 x117002_1]) ?_ 2 _ rfl; (with_reducible repeat (first | refine blk_drewN ?_ _ | refine blk_drew ?_ | refine blk_alloc ?_ _)); refine blk_put (cs := #[.int .i64 7, .string x117001_1, .int .i64 x117002_1]) ?_ 1 _ rfl; (with_reducible repeat (first | refine blk_drewN ?_ _ | refine blk_drew ?_ | refine blk_alloc ?_ _)); refine blk_put (cs := #[.int .i64 x117000_1, .string x117001_1, .int .i64 x117002_1]) ?_ 0 _ rfl; (with_reducible repeat (first | refine blk_drewN ?_ _ | refine blk_drew ?_ | refine blk_alloc ?_ _)); exact BK116.out) Try.underlying37 rfl (by kernel_rfl)) rfl ?_
              exact ⟨by first | rfl | (simp [errW_none, errW_some] <;> rfl) | (simp [*, errW_none, errW_some] <;> rfl), by repeat (first | (with_reducible first | exact HB.out | apply below_alloc | apply pw_below_drewN | apply below_drew1 | refine below_set ?_ GE116.out) | exact HB.out)⟩
            · rw [if_neg c51] at H
              have c51b0 : (a0.toList == ([41] : List UInt8)) = false := beq_eq_false_iff_ne.mpr c51
              have c51b1 : (a0.toList != ([41] : List UInt8)) = true := bne_iff_ne.mpr c51
              by_cases c53 : a0.toList = ([91] : List UInt8)
              · rw [if_pos c53] at H
                have c53b0 : (a0.toList == ([91] : List UInt8)) = true := beq_iff_eq.mpr c53
                have c53b1 : (a0.toList != ([91] : List UInt8)) = false := bne_eq_false_iff_eq.mpr c53
                clear c53
                simp only [Option.some.injEq, Prod.mk.injEq] at H
                obtain ⟨rfl, rfl, rfl⟩ := H
                have hcz54_0 : wc.cell? ⟨gb116, 0, none⟩ = some (.int .i64 x117000_1) := (blk_cell BK116.out 0).trans rfl
                have hcz54_1 : wc.cell? ⟨gb116, 1, none⟩ = some (.string x117001_1) := (blk_cell BK116.out 1).trans rfl
                have hcz54_2 : wc.cell? ⟨gb116, 2, none⟩ = some (.int .i64 x117002_1) := (blk_cell BK116.out 2).trans rfl
                have hfz54_0 := blk_frozen BK116.out 0
                have hfz54_1 := blk_frozen BK116.out 1
                have hfz54_2 := blk_frozen BK116.out 2
                go_wp2
                refine bodyPost_ret (results_cell_row rfl _ _ gb116 37 #[.int .i64 7, .string a0, .int .i64 0] (0, 0) _ rfl (by (with_reducible repeat (first | refine blk_drewN ?_ _ | refine blk_drew ?_ | refine blk_alloc ?_ _)); refine blk_put (cs := #[.int .i64 7, .string a0, .int .i64 x117002_1]) ?_ 2 _ rfl; (with_reducible repeat (first | refine blk_drewN ?_ _ | refine blk_drew ?_ | refine blk_alloc ?_ _)); refine blk_put (cs := #[.int .i64 7, .string x117001_1, .int .i64 x117002_1]) ?_ 1 _ rfl; (with_reducible repeat (first | refine blk_drewN ?_ _ | refine blk_drew ?_ | refine blk_alloc ?_ _)); refine blk_put (cs := #[.int .i64 x117000_1, .string x117001_1, .int .i64 x117002_1]) ?_ 0 _ rfl; (with_reducible repeat (first | refine blk_drewN ?_ _ | refine blk_drew ?_ | refine blk_alloc ?_ _)); exact BK116.out) Try.underlying37 rfl (by kernel_rfl)) rfl ?_
                exact ⟨by first | rfl | (simp [errW_none, errW_some] <;> rfl) | (simp [*, errW_none, errW_some] <;> rfl), by repeat (first | (with_reducible first | exact HB.out | apply below_alloc | apply pw_below_drewN | apply below_drew1 | refine below_set ?_ GE116.out) | exact HB.out)⟩
              · rw [if_neg c53] at H
                have c53b0 : (a0.toList == ([91] : List UInt8)) = false := beq_eq_false_iff_ne.mpr c53
                have c53b1 : (a0.toList != ([91] : List UInt8)) = true := bne_iff_ne.mpr c53
                by_cases c55 : a0.toList = ([93] : List UInt8)
                · rw [if_pos c55] at H
                  have c55b0 : (a0.toList == ([93] : List UInt8)) = true := beq_iff_eq.mpr c55
                  have c55b1 : (a0.toList != ([93] : List UInt8)) = false := bne_eq_false_iff_eq.mpr c55
                  clear c55
                  simp only [Option.some.injEq, Prod.mk.injEq] at H
                  obtain ⟨rfl, rfl, rfl⟩ := H
                  have hcz56_0 : wc.cell? ⟨gb116, 0, none⟩ = some (.int .i64 x117000_1) := (blk_cell BK116.out 0).trans rfl
                  have hcz56_1 : wc.cell? ⟨gb116, 1, none⟩ = some (.string x117001_1) := (blk_cell BK116.out 1).trans rfl
                  have hcz56_2 : wc.cell? ⟨gb116, 2, none⟩ = some (.int .i64 x117002_1) := (blk_cell BK116.out 2).trans rfl
                  have hfz56_0 := blk_frozen BK116.out 0
                  have hfz56_1 := blk_frozen BK116.out 1
                  have hfz56_2 := blk_frozen BK116.out 2
                  go_wp2
                  refine bodyPost_ret (results_cell_row rfl _ _ gb116 37 #[.int .i64 7, .string a0, .int .i64 0] (0, 0) _ rfl (by (with_reducible repeat (first | refine blk_drewN ?_ _ | refine blk_drew ?_ | refine blk_alloc ?_ _)); refine blk_put (cs := #[.int .i64 7, .string a0, .int .i64 x117002_1]) ?_ 2 _ rfl; (with_reducible repeat (first | refine blk_drewN ?_ _ | refine blk_drew ?_ | refine blk_alloc ?_ _)); refine blk_put (cs := #[.int .i64 7, .string x117001_1, .int .i64 x117002_1]) ?_ 1 _ rfl; (with_reducible repeat (first | refine blk_drewN ?_ _ | refine blk_drew ?_ | refine blk_alloc ?_ _)); refine blk_put (cs := #[.int .i64 x117000_1, .string x117001_1, .int .i64 x117002_1]) ?_ 0 _ rfl; (with_reducible repeat (first | refine blk_drewN ?_ _ | refine blk_drew ?_ | refine blk_alloc ?_ _)); exact BK116.out) Try.underlying37 rfl (by kernel_rfl)) rfl ?_
                  exact ⟨by first | rfl | (simp [errW_none, errW_some] <;> rfl) | (simp [*, errW_none, errW_some] <;> rfl), by repeat (first | (with_reducible first | exact HB.out | apply below_alloc | apply pw_below_drewN | apply below_drew1 | refine below_set ?_ GE116.out) | exact HB.out)⟩
                · rw [if_neg c55] at H
                  have c55b0 : (a0.toList == ([93] : List UInt8)) = false := beq_eq_false_iff_ne.mpr c55
                  have c55b1 : (a0.toList != ([93] : List UInt8)) = true := bne_iff_ne.mpr c55
                  by_cases c57 : a0.toList = ([44] : List UInt8)
                  · rw [if_pos c57] at H
                    have c57b0 : (a0.toList == ([44] : List UInt8)) = true := beq_iff_eq.mpr c57
                    have c57b1 : (a0.toList != ([44] : List UInt8)) = false := bne_eq_false_iff_eq.mpr c57
                    clear c57
                    simp only [Option.some.injEq, Prod.mk.injEq] at H
                    obtain ⟨rfl, rfl, rfl⟩ := H
                    have hcz58_0 : wc.cell? ⟨gb116, 0, none⟩ = some (.int .i64 x117000_1) := (blk_cell BK116.out 0).trans rfl
                    have hcz58_1 : wc.cell? ⟨gb116, 1, none⟩ = some (.string x117001_1) := (blk_cell BK116.out 1).trans rfl
                    have hcz58_2 : wc.cell? ⟨gb116, 2, none⟩ = some (.int .i64 x117002_1) := (blk_cell BK116.out 2).trans rfl
                    have hfz58_0 := blk_frozen BK116.out 0
                    have hfz58_1 := blk_frozen BK116.out 1
                    have hfz58_2 := blk_frozen BK116.out 2
                    go_wp2
                    refine bodyPost_ret (results_cell_row rfl _ _ gb116 37 #[.int .i64 7, .string a0, .int .i64 0] (0, 0) _ rfl (by (with_reducible repeat (first | refine blk_drewN ?_ _ | refine blk_drew ?_ | refine blk_alloc ?_ _)); refine blk_put (cs := #[.int .i64 7, .string a0, .int .i64 x117002_1]) ?_ 2 _ rfl; (with_reducible repeat (first | refine blk_drewN ?_ _ | refine blk_drew ?_ | refine blk_alloc ?_ _)); refine blk_put (cs := #[.int .i64 7, .string x117001_1, .int .i64 x117002_1]) ?_ 1 _ rfl; (with_reducible repeat (first | refine blk_drewN ?_ _ | refine blk_drew ?_ | refine blk_alloc ?_ _)); refine blk_put (cs := #[.int .i64 x117000_1, .string x117001_1, .int .i64 x117002_1]) ?_ 0 _ rfl; (with_reducible repeat (first | refine blk_drewN ?_ _ | refine blk_drew ?_ | refine blk_alloc ?_ _)); exact BK116.out) Try.underlying37 rfl (by kernel_rfl)) rfl ?_
                    exact ⟨by first | rfl | (simp [errW_none, errW_some] <;> rfl) | (simp [*, errW_none, errW_some] <;> rfl), by repeat (first | (with_reducible first | exact HB.out | apply below_alloc | apply pw_below_drewN | apply below_drew1 | refine below_set ?_ GE116.out) | exact HB.out)⟩
                  · rw [if_neg c57] at H
                    have c57b0 : (a0.toList == ([44] : List UInt8)) = false := beq_eq_false_iff_ne.mpr c57
                    have c57b1 : (a0.toList != ([44] : List UInt8)) = true := bne_iff_ne.mpr c57
                    by_cases c59 : a0.toList = ([58] : List UInt8)
                    · rw [if_pos c59] at H
                      have c59b0 : (a0.toList == ([58] : List UInt8)) = true := beq_iff_eq.mpr c59
                      have c59b1 : (a0.toList != ([58] : List UInt8)) = false := bne_eq_false_iff_eq.mpr c59
                      clear c59
                      simp only [Option.some.injEq, Prod.mk.injEq] at H
                      obtain ⟨rfl, rfl, rfl⟩ := H
                      have hcz60_0 : wc.cell? ⟨gb116, 0, none⟩ = some (.int .i64 x117000_1) := (blk_cell BK116.out 0).trans rfl
                      have hcz60_1 : wc.cell? ⟨gb116, 1, none⟩ = some (.string x117001_1) := (blk_cell BK116.out 1).trans rfl
                      have hcz60_2 : wc.cell? ⟨gb116, 2, none⟩ = some (.int .i64 x117002_1) := (blk_cell BK116.out 2).trans rfl
                      have hfz60_0 := blk_frozen BK116.out 0
                      have hfz60_1 := blk_frozen BK116.out 1
                      have hfz60_2 := blk_frozen BK116.out 2
                      go_wp2
                      refine bodyPost_ret (results_cell_row rfl _ _ gb116 37 #[.int .i64 7, .string a0, .int .i64 0] (0, 0) _ rfl (by (with_reducible repeat (first | refine blk_drewN ?_ _ | refine blk_drew ?_ | refine blk_alloc ?_ _)); refine blk_put (cs := #[.int .i64 7, .string a0, .int .i64 x117002_1]) ?_ 2 _ rfl; (with_reducible repeat (first | refine blk_drewN ?_ _ | refine blk_drew ?_ | refine blk_alloc ?_ _)); refine blk_put (cs := #[.int .i64 7, .string x117001_1, .int .i64 x117002_1]) ?_ 1 _ rfl; (with_reducible repeat (first | refine blk_drewN ?_ _ | refine blk_drew ?_ | refine blk_alloc ?_ _)); refine blk_put (cs := #[.int .i64 x117000_1, .string x117001_1, .int .i64 x117002_1]) ?_ 0 _ rfl; (with_reducible repeat (first | refine blk_drewN ?_ _ | refine blk_drew ?_ | refine blk_alloc ?_ _)); exact BK116.out) Try.underlying37 rfl (by kernel_rfl)) rfl ?_
                      exact ⟨by first | rfl | (simp [errW_none, errW_some] <;> rfl) | (simp [*, errW_none, errW_some] <;> rfl), by repeat (first | (with_reducible first | exact HB.out | apply below_alloc | apply pw_below_drewN | apply below_drew1 | refine below_set ?_ GE116.out) | exact HB.out)⟩
                    · rw [if_neg c59] at H
                      have c59b0 : (a0.toList == ([58] : List UInt8)) = false := beq_eq_false_iff_ne.mpr c59
                      have c59b1 : (a0.toList != ([58] : List UInt8)) = true := bne_iff_ne.mpr c59
                      by_cases c61 : a0.toList = ([61] : List UInt8)
                      · rw [if_pos c61] at H
                        have c61b0 : (a0.toList == ([61] : List UInt8)) = true := beq_iff_eq.mpr c61
                        have c61b1 : (a0.toList != ([61] : List UInt8)) = false := bne_eq_false_iff_eq.mpr c61
                        clear c61
                        simp only [Option.some.injEq, Prod.mk.injEq] at H
                        obtain ⟨rfl, rfl, rfl⟩ := H
                        have hcz62_0 : wc.cell? ⟨gb116, 0, none⟩ = some (.int .i64 x117000_1) := (blk_cell BK116.out 0).trans rfl
                        have hcz62_1 : wc.cell? ⟨gb116, 1, none⟩ = some (.string x117001_1) := (blk_cell BK116.out 1).trans rfl
                        have hcz62_2 : wc.cell? ⟨gb116, 2, none⟩ = some (.int .i64 x117002_1) := (blk_cell BK116.out 2).trans rfl
                        have hfz62_0 := blk_frozen BK116.out 0
                        have hfz62_1 := blk_frozen BK116.out 1
                        have hfz62_2 := blk_frozen BK116.out 2
                        go_wp2
                        refine bodyPost_ret (results_cell_row rfl _ _ gb116 37 #[.int .i64 7, .string a0, .int .i64 0] (0, 0) _ rfl (by (with_reducible repeat (first | refine blk_drewN ?_ _ | refine blk_drew ?_ | refine blk_alloc ?_ _)); refine blk_put (cs := #[.int .i64 7, .string a0, .int .i64 x117002_1]) ?_ 2 _ rfl; (with_reducible repeat (first | refine blk_drewN ?_ _ | refine blk_drew ?_ | refine blk_alloc ?_ _)); refine blk_put (cs := #[.int .i64 7, .string x117001_1, .int .i64 x117002_1]) ?_ 1 _ rfl; (with_reducible repeat (first | refine blk_drewN ?_ _ | refine blk_drew ?_ | refine blk_alloc ?_ _)); refine blk_put (cs := #[.int .i64 x117000_1, .string x117001_1, .int .i64 x117002_1]) ?_ 0 _ rfl; (with_reducible repeat (first | refine blk_drewN ?_ _ | refine blk_drew ?_ | refine blk_alloc ?_ _)); exact BK116.out) Try.underlying37 rfl (by kernel_rfl)) rfl ?_
                        exact ⟨by first | rfl | (simp [errW_none, errW_some] <;> rfl) | (simp [*, errW_none, errW_some] <;> rfl), by repeat (first | (with_reducible first | exact HB.out | apply below_alloc | apply pw_below_drewN | apply below_drew1 | refine below_set ?_ GE116.out) | exact HB.out)⟩
                      · rw [if_neg c61] at H
                        have c61b0 : (a0.toList == ([61] : List UInt8)) = false := beq_eq_false_iff_ne.mpr c61
                        have c61b1 : (a0.toList != ([61] : List UInt8)) = true := bne_iff_ne.mpr c61
                        by_cases c63 : a0.toList = ([33] : List UInt8)
                        · rw [if_pos c63] at H
                          have c63b0 : (a0.toList == ([33] : List UInt8)) = true := beq_iff_eq.mpr c63
                          have c63b1 : (a0.toList != ([33] : List UInt8)) = false := bne_eq_false_iff_eq.mpr c63
                          clear c63
                          simp only [Option.some.injEq, Prod.mk.injEq] at H
                          obtain ⟨rfl, rfl, rfl⟩ := H
                          have hcz64_0 : wc.cell? ⟨gb116, 0, none⟩ = some (.int .i64 x117000_1) := (blk_cell BK116.out 0).trans rfl
                          have hcz64_1 : wc.cell? ⟨gb116, 1, none⟩ = some (.string x117001_1) := (blk_cell BK116.out 1).trans rfl
                          have hcz64_2 : wc.cell? ⟨gb116, 2, none⟩ = some (.int .i64 x117002_1) := (blk_cell BK116.out 2).trans rfl
                          have hfz64_0 := blk_frozen BK116.out 0
                          have hfz64_1 := blk_frozen BK116.out 1
                          have hfz64_2 := blk_frozen BK116.out 2
                          go_wp2
                          refine bodyPost_ret (results_cell_row rfl _ _ gb116 37 #[.int .i64 7, .string a0, .int .i64 0] (0, 0) _ rfl (by (with_reducible repeat (first | refine blk_drewN ?_ _ | refine blk_drew ?_ | refine blk_alloc ?_ _)); refine blk_put (cs := #[.int .i64 7, .string a0, .int .i64 x117002_1]) ?_ 2 _ rfl; (with_reducible repeat (first | refine blk_drewN ?_ _ | refine blk_drew ?_ | refine blk_alloc ?_ _)); refine blk_put (cs := #[.int .i64 7, .string x117001_1, .int .i64 x117002_1]) ?_ 1 _ rfl; (with_reducible repeat (first | refine blk_drewN ?_ _ | refine blk_drew ?_ | refine blk_alloc ?_ _)); refine blk_put (cs := #[.int .i64 x117000_1, .string x117001_1, .int .i64 x117002_1]) ?_ 0 _ rfl; (with_reducible repeat (first | refine blk_drewN ?_ _ | refine blk_drew ?_ | refine blk_alloc ?_ _)); exact BK116.out) Try.underlying37 rfl (by kernel_rfl)) rfl ?_
                          exact ⟨by first | rfl | (simp [errW_none, errW_some] <;> rfl) | (simp [*, errW_none, errW_some] <;> rfl), by repeat (first | (with_reducible first | exact HB.out | apply below_alloc | apply pw_below_drewN | apply below_drew1 | refine below_set ?_ GE116.out) | exact HB.out)⟩
                        · rw [if_neg c63] at H
                          have c63b0 : (a0.toList == ([33] : List UInt8)) = false := beq_eq_false_iff_ne.mpr c63
                          have c63b1 : (a0.toList != ([33] : List UInt8)) = true := bne_iff_ne.mpr c63
                          by_cases c65 : a0.toList = ([61, 62] : List UInt8)
                          · rw [if_pos c65] at H
                            have c65b0 : (a0.toList == ([61, 62] : List UInt8)) = true := beq_iff_eq.mpr c65
                            have c65b1 : (a0.toList != ([61, 62] : List UInt8)) = false := bne_eq_false_iff_eq.mpr c65
                            clear c65
                            simp only [Option.some.injEq, Prod.mk.injEq] at H
                            obtain ⟨rfl, rfl, rfl⟩ := H
                            have hcz66_0 : wc.cell? ⟨gb116, 0, none⟩ = some (.int .i64 x117000_1) := (blk_cell BK116.out 0).trans rfl
                            have hcz66_1 : wc.cell? ⟨gb116, 1, none⟩ = some (.string x117001_1) := (blk_cell BK116.out 1).trans rfl
                            have hcz66_2 : wc.cell? ⟨gb116, 2, none⟩ = some (.int .i64 x117002_1) := (blk_cell BK116.out 2).trans rfl
                            have hfz66_0 := blk_frozen BK116.out 0
                            have hfz66_1 := blk_frozen BK116.out 1
                            have hfz66_2 := blk_frozen BK116.out 2
                            go_wp2
                            refine bodyPost_ret (results_cell_row rfl _ _ gb116 37 #[.int .i64 7, .string a0, .int .i64 0] (0, 0) _ rfl (by (with_reducible repeat (first | refine blk_drewN ?_ _ | refine blk_drew ?_ | refine blk_alloc ?_ _)); refine blk_put (cs := #[.int .i64 7, .string a0, .int .i64 x117002_1]) ?_ 2 _ rfl; (with_reducible repeat (first | refine blk_drewN ?_ _ | refine blk_drew ?_ | refine blk_alloc ?_ _)); refine blk_put (cs := #[.int .i64 7, .string x117001_1, .int .i64 x117002_1]) ?_ 1 _ rfl; (with_reducible repeat (first | refine blk_drewN ?_ _ | refine blk_drew ?_ | refine blk_alloc ?_ _)); refine blk_put (cs := #[.int .i64 x117000_1, .string x117001_1, .int .i64 x117002_1]) ?_ 0 _ rfl; (with_reducible repeat (first | refine blk_drewN ?_ _ | refine blk_drew ?_ | refine blk_alloc ?_ _)); exact BK116.out) Try.underlying37 rfl (by kernel_rfl)) rfl ?_
                            exact ⟨by first | rfl | (simp [errW_none, errW_some] <;> rfl) | (simp [*, errW_none, errW_some] <;> rfl), by repeat (first | (with_reducible first | exact HB.out | apply below_alloc | apply pw_below_drewN | apply below_drew1 | refine below_set ?_ GE116.out) | exact HB.out)⟩
                          · rw [if_neg c65] at H
                            have c65b0 : (a0.toList == ([61, 62] : List UInt8)) = false := beq_eq_false_iff_ne.mpr c65
                            have c65b1 : (a0.toList != ([61, 62] : List UInt8)) = true := bne_iff_ne.mpr c65
                            by_cases c67 : a0.toList = ([61, 61] : List UInt8)
                            · rw [if_pos c67] at H
                              have c67b0 : (a0.toList == ([61, 61] : List UInt8)) = true := beq_iff_eq.mpr c67
                              have c67b1 : (a0.toList != ([61, 61] : List UInt8)) = false := bne_eq_false_iff_eq.mpr c67
                              clear c67
                              simp only [Option.some.injEq, Prod.mk.injEq] at H
                              obtain ⟨rfl, rfl, rfl⟩ := H
                              have hcz68_0 : wc.cell? ⟨gb116, 0, none⟩ = some (.int .i64 x117000_1) := (blk_cell BK116.out 0).trans rfl
                              have hcz68_1 : wc.cell? ⟨gb116, 1, none⟩ = some (.string x117001_1) := (blk_cell BK116.out 1).trans rfl
                              have hcz68_2 : wc.cell? ⟨gb116, 2, none⟩ = some (.int .i64 x117002_1) := (blk_cell BK116.out 2).trans rfl
                              have hfz68_0 := blk_frozen BK116.out 0
                              have hfz68_1 := blk_frozen BK116.out 1
                              have hfz68_2 := blk_frozen BK116.out 2
                              go_wp2
                              refine bodyPost_ret (results_cell_row rfl _ _ gb116 37 #[.int .i64 7, .string a0, .int .i64 0] (0, 0) _ rfl (by (with_reducible repeat (first | refine blk_drewN ?_ _ | refine blk_drew ?_ | refine blk_alloc ?_ _)); refine blk_put (cs := #[.int .i64 7, .string a0, .int .i64 x117002_1]) ?_ 2 _ rfl; (with_reducible repeat (first | refine blk_drewN ?_ _ | refine blk_drew ?_ | refine blk_alloc ?_ _)); refine blk_put (cs := #[.int .i64 7, .string x117001_1, .int .i64 x117002_1]) ?_ 1 _ rfl; (with_reducible repeat (first | refine blk_drewN ?_ _ | refine blk_drew ?_ | refine blk_alloc ?_ _)); refine blk_put (cs := #[.int .i64 x117000_1, .string x117001_1, .int .i64 x117002_1]) ?_ 0 _ rfl; (with_reducible repeat (first | refine blk_drewN ?_ _ | refine blk_drew ?_ | refine blk_alloc ?_ _)); exact BK116.out) Try.underlying37 rfl (by kernel_rfl)) rfl ?_
                              exact ⟨by first | rfl | (simp [errW_none, errW_some] <;> rfl) | (simp [*, errW_none, errW_some] <;> rfl), by repeat (first | (with_reducible first | exact HB.out | apply below_alloc | apply pw_below_drewN | apply below_drew1 | refine below_set ?_ GE116.out) | exact HB.out)⟩
                            · rw [if_neg c67] at H
                              have c67b0 : (a0.toList == ([61, 61] : List UInt8)) = false := beq_eq_false_iff_ne.mpr c67
                              have c67b1 : (a0.toList != ([61, 61] : List UInt8)) = true := bne_iff_ne.mpr c67
                              by_cases c69 : a0.toList = ([33, 61] : List UInt8)
                              · rw [if_pos c69] at H
                                have c69b0 : (a0.toList == ([33, 61] : List UInt8)) = true := beq_iff_eq.mpr c69
                                have c69b1 : (a0.toList != ([33, 61] : List UInt8)) = false := bne_eq_false_iff_eq.mpr c69
                                clear c69
                                simp only [Option.some.injEq, Prod.mk.injEq] at H
                                obtain ⟨rfl, rfl, rfl⟩ := H
                                have hcz70_0 : wc.cell? ⟨gb116, 0, none⟩ = some (.int .i64 x117000_1) := (blk_cell BK116.out 0).trans rfl
                                have hcz70_1 : wc.cell? ⟨gb116, 1, none⟩ = some (.string x117001_1) := (blk_cell BK116.out 1).trans rfl
                                have hcz70_2 : wc.cell? ⟨gb116, 2, none⟩ = some (.int .i64 x117002_1) := (blk_cell BK116.out 2).trans rfl
                                have hfz70_0 := blk_frozen BK116.out 0
                                have hfz70_1 := blk_frozen BK116.out 1
                                have hfz70_2 := blk_frozen BK116.out 2
                                go_wp2
                                refine bodyPost_ret (results_cell_row rfl _ _ gb116 37 #[.int .i64 7, .string a0, .int .i64 0] (0, 0) _ rfl (by (with_reducible repeat (first | refine blk_drewN ?_ _ | refine blk_drew ?_ | refine blk_alloc ?_ _)); refine blk_put (cs := #[.int .i64 7, .string a0, .int .i64 x117002_1]) ?_ 2 _ rfl; (with_reducible repeat (first | refine blk_drewN ?_ _ | refine blk_drew ?_ | refine blk_alloc ?_ _)); refine blk_put (cs := #[.int .i64 7, .string x117001_1, .int .i64 x117002_1]) ?_ 1 _ rfl; (with_reducible repeat (first | refine blk_drewN ?_ _ | refine blk_drew ?_ | refine blk_alloc ?_ _)); refine blk_put (cs := #[.int .i64 x117000_1, .string x117001_1, .int .i64 x117002_1]) ?_ 0 _ rfl; (with_reducible repeat (first | refine blk_drewN ?_ _ | refine blk_drew ?_ | refine blk_alloc ?_ _)); exact BK116.out) Try.underlying37 rfl (by kernel_rfl)) rfl ?_
                                exact ⟨by first | rfl | (simp [errW_none, errW_some] <;> rfl) | (simp [*, errW_none, errW_some] <;> rfl), by repeat (first | (with_reducible first | exact HB.out | apply below_alloc | apply pw_below_drewN | apply below_drew1 | refine below_set ?_ GE116.out) | exact HB.out)⟩
                              · rw [if_neg c69] at H
                                have c69b0 : (a0.toList == ([33, 61] : List UInt8)) = false := beq_eq_false_iff_ne.mpr c69
                                have c69b1 : (a0.toList != ([33, 61] : List UInt8)) = true := bne_iff_ne.mpr c69
                                by_cases c71 : a0.toList = ([45, 62] : List UInt8)
                                · rw [if_pos c71] at H
                                  have c71b0 : (a0.toList == ([45, 62] : List UInt8)) = true := beq_iff_eq.mpr c71
                                  have c71b1 : (a0.toList != ([45, 62] : List UInt8)) = false := bne_eq_false_iff_eq.mpr c71
                                  clear c71
                                  simp only [Option.some.injEq, Prod.mk.injEq] at H
                                  obtain ⟨rfl, rfl, rfl⟩ := H
                                  have hcz72_0 : wc.cell? ⟨gb116, 0, none⟩ = some (.int .i64 x117000_1) := (blk_cell BK116.out 0).trans rfl
                                  have hcz72_1 : wc.cell? ⟨gb116, 1, none⟩ = some (.string x117001_1) := (blk_cell BK116.out 1).trans rfl
                                  have hcz72_2 : wc.cell? ⟨gb116, 2, none⟩ = some (.int .i64 x117002_1) := (blk_cell BK116.out 2).trans rfl
                                  have hfz72_0 := blk_frozen BK116.out 0
                                  have hfz72_1 := blk_frozen BK116.out 1
                                  have hfz72_2 := blk_frozen BK116.out 2
                                  go_wp2
                                  refine bodyPost_ret (results_cell_row rfl _ _ gb116 37 #[.int .i64 7, .string a0, .int .i64 0] (0, 0) _ rfl (by (with_reducible repeat (first | refine blk_drewN ?_ _ | refine blk_drew ?_ | refine blk_alloc ?_ _)); refine blk_put (cs := #[.int .i64 7, .string a0, .int .i64 x117002_1]) ?_ 2 _ rfl; (with_reducible repeat (first | refine blk_drewN ?_ _ | refine blk_drew ?_ | refine blk_alloc ?_ _)); refine blk_put (cs := #[.int .i64 7, .string x117001_1, .int .i64 x117002_1]) ?_ 1 _ rfl; (with_reducible repeat (first | refine blk_drewN ?_ _ | refine blk_drew ?_ | refine blk_alloc ?_ _)); refine blk_put (cs := #[.int .i64 x117000_1, .string x117001_1, .int .i64 x117002_1]) ?_ 0 _ rfl; (with_reducible repeat (first | refine blk_drewN ?_ _ | refine blk_drew ?_ | refine blk_alloc ?_ _)); exact BK116.out) Try.underlying37 rfl (by kernel_rfl)) rfl ?_
                                  exact ⟨by first | rfl | (simp [errW_none, errW_some] <;> rfl) | (simp [*, errW_none, errW_some] <;> rfl), by repeat (first | (with_reducible first | exact HB.out | apply below_alloc | apply pw_below_drewN | apply below_drew1 | refine below_set ?_ GE116.out) | exact HB.out)⟩
                                · rw [if_neg c71] at H
                                  have c71b0 : (a0.toList == ([45, 62] : List UInt8)) = false := beq_eq_false_iff_ne.mpr c71
                                  have c71b1 : (a0.toList != ([45, 62] : List UInt8)) = true := bne_iff_ne.mpr c71
                                  by_cases c73 : a0.toList = ([126, 62] : List UInt8)
                                  · rw [if_pos c73] at H
                                    have c73b0 : (a0.toList == ([126, 62] : List UInt8)) = true := beq_iff_eq.mpr c73
                                    have c73b1 : (a0.toList != ([126, 62] : List UInt8)) = false := bne_eq_false_iff_eq.mpr c73
                                    clear c73
                                    simp only [Option.some.injEq, Prod.mk.injEq] at H
                                    obtain ⟨rfl, rfl, rfl⟩ := H
                                    have hcz74_0 : wc.cell? ⟨gb116, 0, none⟩ = some (.int .i64 x117000_1) := (blk_cell BK116.out 0).trans rfl
                                    have hcz74_1 : wc.cell? ⟨gb116, 1, none⟩ = some (.string x117001_1) := (blk_cell BK116.out 1).trans rfl
                                    have hcz74_2 : wc.cell? ⟨gb116, 2, none⟩ = some (.int .i64 x117002_1) := (blk_cell BK116.out 2).trans rfl
                                    have hfz74_0 := blk_frozen BK116.out 0
                                    have hfz74_1 := blk_frozen BK116.out 1
                                    have hfz74_2 := blk_frozen BK116.out 2
                                    go_wp2
                                    refine bodyPost_ret (results_cell_row rfl _ _ gb116 37 #[.int .i64 7, .string a0, .int .i64 0] (0, 0) _ rfl (by (with_reducible repeat (first | refine blk_drewN ?_ _ | refine blk_drew ?_ | refine blk_alloc ?_ _)); refine blk_put (cs := #[.int .i64 7, .string a0, .int .i64 x117002_1]) ?_ 2 _ rfl; (with_reducible repeat (first | refine blk_drewN ?_ _ | refine blk_drew ?_ | refine blk_alloc ?_ _)); refine blk_put (cs := #[.int .i64 7, .string x117001_1, .int .i64 x117002_1]) ?_ 1 _ rfl; (with_reducible repeat (first | refine blk_drewN ?_ _ | refine blk_drew ?_ | refine blk_alloc ?_ _)); refine blk_put (cs := #[.int .i64 x117000_1, .string x117001_1, .int .i64 x117002_1]) ?_ 0 _ rfl; (with_reducible repeat (first | refine blk_drewN ?_ _ | refine blk_drew ?_ | refine blk_alloc ?_ _)); exact BK116.out) Try.underlying37 rfl (by kernel_rfl)) rfl ?_
                                    exact ⟨by first | rfl | (simp [errW_none, errW_some] <;> rfl) | (simp [*, errW_none, errW_some] <;> rfl), by repeat (first | (with_reducible first | exact HB.out | apply below_alloc | apply pw_below_drewN | apply below_drew1 | refine below_set ?_ GE116.out) | exact HB.out)⟩
                                  · rw [if_neg c73] at H
                                    have c73b0 : (a0.toList == ([126, 62] : List UInt8)) = false := beq_eq_false_iff_ne.mpr c73
                                    have c73b1 : (a0.toList != ([126, 62] : List UInt8)) = true := bne_iff_ne.mpr c73
                                    have H' := Aside0.mk H
                                    clear H
                                    go_wp2
                                    go_loopg [4] kj1 (fun kq v4 w' => ∃ (x4_2 : Int) (x117000_2 : Int) (x117001_2 : ByteArray) (x117002_2 : Int), v4 = .int .i64 x4_2 ∧ Aside0 (majordomoref11_word.l0 kq a0 (a0.size : Int) x4_2 = some (r1, r2, r3)) ∧ Aside0 (kq ≤ kj1) ∧ Aside0 (w'.heap[gb116]? = some (.cells #[.int .i64 x117000_2, .string x117001_2, .int .i64 x117002_2] 37 (0, 0))) ∧ Aside0 (Below w.heap.size w w'))
                                    case atStart => exact ⟨(0), (x117000_1), (x117001_1), (x117002_1), (by first | rfl | (simp; done) | (simp [*]; done)), H', ⟨Nat.le_refl _⟩, ⟨by (with_reducible repeat (first | refine blk_drewN ?_ _ | refine blk_drew ?_ | refine blk_alloc ?_ _)); exact BK116.out⟩, ⟨by repeat (first | (with_reducible first | exact HB.out | apply below_alloc | apply pw_below_drewN | apply below_drew1 | refine below_set ?_ GE116.out) | exact HB.out)⟩⟩
                                    case round =>
                                      clear H'
                                      try clear c1
                                      try clear p1
                                      try clear q1
                                      try clear hx1
                                      try clear qi1
                                      try clear c2
                                      try clear p2
                                      try clear q2
                                      try clear hx2
                                      try clear qi2
                                      try clear c3
                                      try clear p3
                                      try clear q3
                                      try clear hx3
                                      try clear qi3
                                      try clear c4
                                      try clear p4
                                      try clear q4
                                      try clear hx4
                                      try clear c5
                                      try clear c6
                                      try clear p6
                                      try clear c7
                                      try clear c8
                                      try clear c11
                                      try clear c11b0
                                      try clear c11b1
                                      try clear c12
                                      try clear c12b0
                                      try clear c12b1
                                      try clear p13
                                      try clear q13
                                      try clear hx13
                                      try clear qi13
                                      try clear c14
                                      try clear c14b0
                                      try clear c14b1
                                      try clear c15
                                      try clear c15b0
                                      try clear c15b1
                                      try clear c16
                                      try clear c17
                                      try clear c18
                                      try clear c18b0
                                      try clear c18b1
                                      try clear c21
                                      try clear c21b0
                                      try clear c21b1
                                      try clear c22
                                      try clear c22b0
                                      try clear c22b1
                                      try clear p23
                                      try clear q23
                                      try clear hx23
                                      try clear qi23
                                      try clear c24
                                      try clear c24b0
                                      try clear c24b1
                                      try clear c26
                                      try clear c26b0
                                      try clear c27
                                      try clear c27b0
                                      try clear p28
                                      try clear q28
                                      try clear hx28
                                      try clear c29
                                      try clear c30
                                      try clear c30b0
                                      try clear c30b1
                                      try clear c31
                                      try clear c31b0
                                      try clear c31b1
                                      try clear c32
                                      try clear c33
                                      try clear c33b0
                                      try clear c33b1
                                      try clear c34
                                      try clear c34b0
                                      try clear c34b1
                                      try clear p35
                                      try clear q35
                                      try clear hx35
                                      try clear qi35
                                      try clear c36
                                      try clear c36b0
                                      try clear c36b1
                                      try clear c38
                                      try clear c38b0
                                      try clear c39
                                      try clear c39b0
                                      try clear p40
                                      try clear q40
                                      try clear hx40
                                      try clear c41
                                      try clear c41b0
                                      try clear c41b1
                                      try clear c42
                                      try clear c42b0
                                      try clear c42b1
                                      try clear c43
                                      try clear c43b0
                                      try clear c43b1
                                      try clear c45
                                      try clear c45b0
                                      try clear c45b1
                                      try clear c47
                                      try clear c47b0
                                      try clear c47b1
                                      try clear c49
                                      try clear c49b0
                                      try clear c49b1
                                      try clear c51
                                      try clear c51b0
                                      try clear c51b1
                                      try clear c53
                                      try clear c53b0
                                      try clear c53b1
                                      try clear c55
                                      try clear c55b0
                                      try clear c55b1
                                      try clear c57
                                      try clear c57b0
                                      try clear c57b1
                                      try clear c59
                                      try clear c59b0
                                      try clear c59b1
                                      try clear c61
                                      try clear c61b0
                                      try clear c61b1
                                      try clear c63
                                      try clear c63b0
                                      try clear c63b1
                                      try clear p64
                                      try clear c65
                                      try clear c65b0
                                      try clear c65b1
                                      try clear c67
                                      try clear c67b0
                                      try clear c67b1
                                      try clear c69
                                      try clear c69b0
                                      try clear c69b1
                                      try clear c71
                                      try clear c71b0
                                      try clear c71b1
                                      try clear c73
                                      try clear c73b0
                                      try clear c73b1
                                      try clear hcz19_0
                                      try clear hcz19_1
                                      try clear hcz19_2
                                      try clear hcz32_0
                                      try clear hcz32_1
                                      try clear hcz32_2
                                      try clear hcz44_0
                                      try clear hcz44_1
                                      try clear hcz44_2
                                      try clear hcz46_0
                                      try clear hcz46_1
                                      try clear hcz46_2
                                      try clear hcz48_0
                                      try clear hcz48_1
                                      try clear hcz48_2
                                      try clear hcz50_0
                                      try clear hcz50_1
                                      try clear hcz50_2
                                      try clear hcz52_0
                                      try clear hcz52_1
                                      try clear hcz52_2
                                      try clear hcz54_0
                                      try clear hcz54_1
                                      try clear hcz54_2
                                      try clear hcz56_0
                                      try clear hcz56_1
                                      try clear hcz56_2
                                      try clear hcz58_0
                                      try clear hcz58_1
                                      try clear hcz58_2
                                      try clear hcz60_0
                                      try clear hcz60_1
                                      try clear hcz60_2
                                      try clear hcz62_0
                                      try clear hcz62_1
                                      try clear hcz62_2
                                      try clear hcz64_0
                                      try clear hcz64_1
                                      try clear hcz64_2
                                      try clear hcz66_0
                                      try clear hcz66_1
                                      try clear hcz66_2
                                      try clear hcz68_0
                                      try clear hcz68_1
                                      try clear hcz68_2
                                      try clear hcz6_0
                                      try clear hcz6_1
                                      try clear hcz6_2
                                      try clear hcz70_0
                                      try clear hcz70_1
                                      try clear hcz70_2
                                      try clear hcz72_0
                                      try clear hcz72_1
                                      try clear hcz72_2
                                      try clear hcz74_0
                                      try clear hcz74_1
                                      try clear hcz74_2
                                      try clear hcz9_0
                                      try clear hcz9_1
                                      try clear hcz9_2
                                      try clear hfz19_0
                                      try clear hfz19_1
                                      try clear hfz19_2
                                      try clear hfz32_0
                                      try clear hfz32_1
                                      try clear hfz32_2
                                      try clear hfz44_0
                                      try clear hfz44_1
                                      try clear hfz44_2
                                      try clear hfz46_0
                                      try clear hfz46_1
                                      try clear hfz46_2
                                      try clear hfz48_0
                                      try clear hfz48_1
                                      try clear hfz48_2
                                      try clear hfz50_0
                                      try clear hfz50_1
                                      try clear hfz50_2
                                      try clear hfz52_0
                                      try clear hfz52_1
                                      try clear hfz52_2
                                      try clear hfz54_0
                                      try clear hfz54_1
                                      try clear hfz54_2
                                      try clear hfz56_0
                                      try clear hfz56_1
                                      try clear hfz56_2
                                      try clear hfz58_0
                                      try clear hfz58_1
                                      try clear hfz58_2
                                      try clear hfz60_0
                                      try clear hfz60_1
                                      try clear hfz60_2
                                      try clear hfz62_0
                                      try clear hfz62_1
                                      try clear hfz62_2
                                      try clear hfz64_0
                                      try clear hfz64_1
                                      try clear hfz64_2
                                      try clear hfz66_0
                                      try clear hfz66_1
                                      try clear hfz66_2
                                      try clear hfz68_0
                                      try clear hfz68_1
                                      try clear hfz68_2
                                      try clear hfz6_0
                                      try clear hfz6_1
                                      try clear hfz6_2
                                      try clear hfz70_0
                                      try clear hfz70_1
                                      try clear hfz70_2
                                      try clear hfz72_0
                                      try clear hfz72_1
                                      try clear hfz72_2
                                      try clear hfz74_0
                                      try clear hfz74_1
                                      try clear hfz74_2
                                      try clear hfz9_0
                                      try clear hfz9_1
                                      try clear hfz9_2
                                      try clear p1
                                      try clear p13
                                      try clear p2
                                      try clear p23
                                      try clear p28
                                      try clear p3
                                      try clear p35
                                      try clear p4
                                      try clear p40
                                      try clear p6
                                      try clear q1
                                      try clear q13
                                      try clear q2
                                      try clear q23
                                      try clear q28
                                      try clear q3
                                      try clear q35
                                      try clear q4
                                      try clear q40
                                      obtain ⟨x4_2, x117000_2, x117001_2, x117002_2, rfl, HA, HK2, BK116, HB⟩ := hrel
                                      cases gk with
                                      | zero => exact absurd HA.out (by simp [majordomoref11_word.l0])
                                      | succ k2 =>
                                        have H := HA.out
                                        clear HA
                                        simp only [majordomoref11_word.l0] at H
                                        by_cases c75 : x4_2 < (a0.size : Int)
                                        · rw [if_pos c75] at H
                                          have c75b0 : decide (x4_2 < (a0.size : Int)) = true := decide_eq_true c75
                                          clear c75
                                          by_cases c76 : 0 ≤ x4_2
                                          · rw [if_pos c76] at H
                                            have c76b0 : decide (0 ≤ x4_2) = true := decide_eq_true c76
                                            clear c76
                                            by_cases c77 : x4_2 < (a0.size : Int)
                                            · rw [if_pos c77] at H
                                              have c77b0 : decide (x4_2 < (a0.size : Int)) = true := decide_eq_true c77
                                              clear c77
                                              replace H := Option.bind_eq_some_iff.mp H
                                              obtain ⟨t120, A790, H⟩ := H
                                              replace H : (if t120 = true then (majordomoref11_word.l0 k2 a0 (a0.size : Int) (wrap64 (x4_2 + 1))) else (some (0, (⟨#[]⟩ : ByteArray), 0))) = some (r1, r2, r3) := H
                                              have A79 := Aside0.mk A790
                                              clear A790
                                              by_cases c80 : t120 = true
                                              · subst c80
                                                have H1 : (majordomoref11_word.l0 k2 a0 (a0.size : Int) (wrap64 (x4_2 + 1))) = some (r1, r2, r3) := by rw [if_pos rfl] at H; exact H
                                                clear H
                                                have H := H1
                                                clear H1
                                                have H' := Aside0.mk H
                                                clear H
                                                have p78 : 0 ≤ (x4_2 : Int) := of_decide_eq_true (by first | (with_reducible assumption) | assumption)
                                                have q78 : x4_2 < (a0.size : Int) := of_decide_eq_true (by first | (with_reducible assumption) | assumption)
                                                have hx78 := bt_at a0 x4_2
                                                replace p78 := eq_true p78
                                                replace q78 := eq_true q78
                                                go_wp2_with (first | ((with_reducible refine gate_callee (f := 29) rfl ?_); refine goesL_ (some 100) rfl rfl Try.func29 (by kernel_rfl) rfl #[.int .u8 (bt a0 x4_2)] rfl (by (try simp only [List.map_toArray, List.map_cons, List.map_nil]); first | done | rfl | (simp only [List.length_drop, List.length_take]; rfl)) ?_; (with_reducible refine (majordomoref11_digit.calls (bt a0 x4_2) true _ A79.out).mono ?_); rintro e w' ⟨rfl, ⟨nd, rfl⟩⟩; refine ⟨_, rfl, ?_⟩))
                                                go_roundg k2
                                                case measure => have := HJ1.out; have := HK2.out; omega
                                                case rel => exact ⟨(wrap64 (x4_2 + 1)), (x117000_2), (x117001_2), (x117002_2), (by first | rfl | (simp; done) | (simp [*]; done)), H', ⟨by have := HJ1.out; have := HK2.out; omega⟩, ⟨by (with_reducible repeat (first | refine blk_drewN ?_ _ | refine blk_drew ?_ | refine blk_alloc ?_ _)); exact BK116.out⟩, ⟨by repeat (first | (with_reducible first | exact HB.out | apply below_alloc | apply pw_below_drewN | apply below_drew1 | refine below_set ?_ GE116.out) | exact HB.out)⟩⟩
                                              · replace c80 := Bool.eq_false_iff.mpr c80
                                                subst c80
                                                have H1 : (some (0, (⟨#[]⟩ : ByteArray), 0)) = some (r1, r2, r3) := by rw [if_neg (show ¬ (false = true) by decide)] at H; exact H
                                                clear H
                                                have H := H1
                                                clear H1
                                                simp only [Option.some.injEq, Prod.mk.injEq] at H
                                                obtain ⟨rfl, rfl, rfl⟩ := H
                                                have p78 : 0 ≤ (x4_2 : Int) := of_decide_eq_true (by first | (with_reducible assumption) | assumption)
                                                have q78 : x4_2 < (a0.size : Int) := of_decide_eq_true (by first | (with_reducible assumption) | assumption)
                                                have hx78 := bt_at a0 x4_2
                                                replace p78 := eq_true p78
                                                replace q78 := eq_true q78
                                                go_wp2_with (first | ((with_reducible refine gate_callee (f := 29) rfl ?_); refine goesL_ (some 100) rfl rfl Try.func29 (by kernel_rfl) rfl #[.int .u8 (bt a0 x4_2)] rfl (by (try simp only [List.map_toArray, List.map_cons, List.map_nil]); first | done | rfl | (simp only [List.length_drop, List.length_take]; rfl)) ?_; (with_reducible refine (majordomoref11_digit.calls (bt a0 x4_2) false _ A79.out).mono ?_); rintro e w' ⟨rfl, ⟨nd, rfl⟩⟩; refine ⟨_, rfl, ?_⟩; (try (rw [drewN_self wr]; generalize hq_ : World.drewN wr _ = wr; have n0_ : Aside0 (wr.heap[gb116]? = some (.cells #[.int .i64 x117000_2, .string x117001_2, .int .i64 x117002_2] 37 (0, 0))) := ⟨by rw [← hq_]; exact (by (with_reducible repeat (first | refine blk_drewN ?_ _ | refine blk_drew ?_ | refine blk_alloc ?_ _)); exact BK116.out)⟩; have n1_ : Aside0 (Below w.heap.size w wr) := ⟨by rw [← hq_]; exact (by repeat (first | (with_reducible first | exact HB.out | apply below_alloc | apply pw_below_drewN | apply below_drew1 | refine below_set ?_ GE116.out) | exact HB.out))⟩; clear BK116 HB hq_; have BK116 := n0_; have HB := n1_; clear n0_ n1_)); have hcz81_0 : wr.cell? ⟨gb116, 0, none⟩ = some (.int .i64 x117000_2) := (blk_cell BK116.out 0).trans rfl; have hcz81_1 : wr.cell? ⟨gb116, 1, none⟩ = some (.string x117001_2) := (blk_cell BK116.out 1).trans rfl; have hcz81_2 : wr.cell? ⟨gb116, 2, none⟩ = some (.int .i64 x117002_2) := (blk_cell BK116.out 2).trans rfl; have hfz81_0 := blk_frozen BK116.out 0; have hfz81_1 := blk_frozen BK116.out 1; have hfz81_2 := blk_frozen BK116.out 2))
                                                refine bodyPost_ret (results_cell_row rfl _ _ gb116 37 #[.int .i64 0, .string (⟨#[]⟩ : ByteArray), .int .i64 0] (0, 0) _ rfl (by (with_reducible repeat (first | refine blk_drewN ?_ _ | refine blk_drew ?_ | refine blk_alloc ?_ _)); refine blk_put (cs := #[.int .i64 0, .string (⟨#[]⟩ : ByteArray), .int .i64 x117002_2]) ?_ 2 _ rfl; (with_reducible repeat (first | refine blk_drewN ?_ _ | refine blk_drew ?_ | refine blk_alloc ?_ _)); refine blk_put (cs := #[.int .i64 0, .string x117001_2, .int .i64 x117002_2]) ?_ 1 _ rfl; (with_reducible repeat (first | refine blk_drewN ?_ _ | refine blk_drew ?_ | refine blk_alloc ?_ _)); refine blk_put (cs := #[.int .i64 x117000_2, .string x117001_2, .int .i64 x117002_2]) ?_ 0 _ rfl; (with_reducible repeat (first | refine blk_drewN ?_ _ | refine blk_drew ?_ | refine blk_alloc ?_ _)); exact BK116.out) Try.underlying37 rfl (by kernel_rfl)) rfl ?_
                                                exact ⟨by first | rfl | (simp [errW_none, errW_some] <;> rfl) | (simp [*, errW_none, errW_some] <;> rfl), by repeat (first | (with_reducible first | exact HB.out | apply below_alloc | apply pw_below_drewN | apply below_drew1 | refine below_set ?_ GE116.out) | exact HB.out)⟩
                                            · rw [if_neg c77] at H
                                              exact absurd H (by simp)
                                          · rw [if_neg c76] at H
                                            exact absurd H (by simp)
                                        · rw [if_neg c75] at H
                                          have c75b0 : decide (x4_2 < (a0.size : Int)) = false := decide_eq_false c75
                                          clear c75
                                          by_cases c82 : (a0.size : Int) > 0
                                          · rw [if_pos c82] at H
                                            have c82b0 : decide (0 < (a0.size : Int)) = true := decide_eq_true c82
                                            have c82b1 : decide (0 < a0.size) = true := decide_eq_true (by omega)
                                            clear c82
                                            simp only [Option.some.injEq, Prod.mk.injEq] at H
                                            obtain ⟨rfl, rfl, rfl⟩ := H
                                            have hcz83_0 : wr.cell? ⟨gb116, 0, none⟩ = some (.int .i64 x117000_2) := (blk_cell BK116.out 0).trans rfl
                                            have hcz83_1 : wr.cell? ⟨gb116, 1, none⟩ = some (.string x117001_2) := (blk_cell BK116.out 1).trans rfl
                                            have hcz83_2 : wr.cell? ⟨gb116, 2, none⟩ = some (.int .i64 x117002_2) := (blk_cell BK116.out 2).trans rfl
                                            have hfz83_0 := blk_frozen BK116.out 0
                                            have hfz83_1 := blk_frozen BK116.out 1
                                            have hfz83_2 := blk_frozen BK116.out 2
                                            go_wp2
                                            refine bodyPost_ret (results_cell_row rfl _ _ gb116 37 #[.int .i64 6, .string a0, .int .i64 0] (0, 0) _ rfl (by (with_reducible repeat (first | refine blk_drewN ?_ _ | refine blk_drew ?_ | refine blk_alloc ?_ _)); refine blk_put (cs := #[.int .i64 6, .string a0, .int .i64 x117002_2]) ?_ 2 _ rfl; (with_reducible repeat (first | refine blk_drewN ?_ _ | refine blk_drew ?_ | refine blk_alloc ?_ _)); refine blk_put (cs := #[.int .i64 6, .string x117001_2, .int .i64 x117002_2]) ?_ 1 _ rfl; (with_reducible repeat (first | refine blk_drewN ?_ _ | refine blk_drew ?_ | refine blk_alloc ?_ _)); refine blk_put (cs := #[.int .i64 x117000_2, .string x117001_2, .int .i64 x117002_2]) ?_ 0 _ rfl; (with_reducible repeat (first | refine blk_drewN ?_ _ | refine blk_drew ?_ | refine blk_alloc ?_ _)); exact BK116.out) Try.underlying37 rfl (by kernel_rfl)) rfl ?_
                                            exact ⟨by first | rfl | (simp [errW_none, errW_some] <;> rfl) | (simp [*, errW_none, errW_some] <;> rfl), by repeat (first | (with_reducible first | exact HB.out | apply below_alloc | apply pw_below_drewN | apply below_drew1 | refine below_set ?_ GE116.out) | exact HB.out)⟩
                                          · rw [if_neg c82] at H
                                            have c82b0 : decide (0 < (a0.size : Int)) = false := decide_eq_false c82
                                            have c82b1 : decide (0 < a0.size) = false := decide_eq_false (by omega)
                                            clear c82
                                            simp only [Option.some.injEq, Prod.mk.injEq] at H
                                            obtain ⟨rfl, rfl, rfl⟩ := H
                                            have hcz84_0 : wr.cell? ⟨gb116, 0, none⟩ = some (.int .i64 x117000_2) := (blk_cell BK116.out 0).trans rfl
                                            have hcz84_1 : wr.cell? ⟨gb116, 1, none⟩ = some (.string x117001_2) := (blk_cell BK116.out 1).trans rfl
                                            have hcz84_2 : wr.cell? ⟨gb116, 2, none⟩ = some (.int .i64 x117002_2) := (blk_cell BK116.out 2).trans rfl
                                            have hfz84_0 := blk_frozen BK116.out 0
                                            have hfz84_1 := blk_frozen BK116.out 1
                                            have hfz84_2 := blk_frozen BK116.out 2
                                            go_wp2
                                            refine bodyPost_ret (results_cell_row rfl _ _ gb116 37 #[.int .i64 0, .string (⟨#[]⟩ : ByteArray), .int .i64 0] (0, 0) _ rfl (by (with_reducible repeat (first | refine blk_drewN ?_ _ | refine blk_drew ?_ | refine blk_alloc ?_ _)); refine blk_put (cs := #[.int .i64 0, .string (⟨#[]⟩ : ByteArray), .int .i64 x117002_2]) ?_ 2 _ rfl; (with_reducible repeat (first | refine blk_drewN ?_ _ | refine blk_drew ?_ | refine blk_alloc ?_ _)); refine blk_put (cs := #[.int .i64 0, .string x117001_2, .int .i64 x117002_2]) ?_ 1 _ rfl; (with_reducible repeat (first | refine blk_drewN ?_ _ | refine blk_drew ?_ | refine blk_alloc ?_ _)); refine blk_put (cs := #[.int .i64 x117000_2, .string x117001_2, .int .i64 x117002_2]) ?_ 0 _ rfl; (with_reducible repeat (first | refine blk_drewN ?_ _ | refine blk_drew ?_ | refine blk_alloc ?_ _)); exact BK116.out) Try.underlying37 rfl (by kernel_rfl)) rfl ?_
                                            exact ⟨by first | rfl | (simp [errW_none, errW_some] <;> rfl) | (simp [*, errW_none, errW_some] <;> rfl), by repeat (first | (with_reducible first | exact HB.out | apply below_alloc | apply pw_below_drewN | apply below_drew1 | refine below_set ?_ GE116.out) | exact HB.out)⟩

end Go.Proofs.Ytoggcdldoinbnaa.PL
