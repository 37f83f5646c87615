-- printed by wip/printx (a program of this session's, over the kit's print)
import Derived.Test.YtgppfalpncbmbaaDoorPEx0
import Derived.Test.YtgppfalpncbmbaaDoorPEx2
import Derived.Test.YtgppfalpncbmbaaDoorPEx3
import Derived.Test.YtgppfalpncbmbaaDoorPEx4
namespace Go.Proofs.YtgppfalpncbmbaaDoor.PE
open Go.RowKit Go.Proofs.YtgppfalpncbmbaaDoorW.PrintWords Go.Proofs.YtgppfalpncbmbaaDoorW.PrintLast Go.Proofs.YtgppfalpncbmbaaDoorW.PrintMore
attribute [local go_sem] max2_int min2_int max_two min_two max_three min_three max_four min_four Go.Proofs.YtgppfalpncbmbaaDoor.PxMore.isSome_setCell   -- for this text's walks alone
set_option linter.unusedVariables false
set_option linter.unusedSimpArgs false

/-! ### majordomolaw03_shown: function 11 -/
def majordomolaw03_shown.f (k : Nat)  : Option (Bool) := (layout_Of.f 512).bind fun bt145 => ((layout_Path.f k (⟨#[47, 97, 47, 98]⟩ : ByteArray)).bind fun bt155 => ((layout_Path.f k (⟨#[47, 46, 46]⟩ : ByteArray)).bind fun bt159 => ((layout_PutNode.f 1 420 3 (([300] : List Int)) 0).bind fun bt166 => (if bt145.2.2.2.2.2.2.2.2 = 0 then (if bt145.2.2.2.2.1 = 201 then (if bt145.2.2.2.2.2.1 = 202 then (if bt145.2.2.2.2.2.2.1 = 234 then (if bt145.2.2.2.2.2.2.2.1 = 64 then ((layout_Cost.f 1 385).bind fun t173 => (if t173 = 8 then ((layout_Cost.f 2 16).bind fun t174 => (if t174 = 9 then (if bt155.2 = 0 then (if (bt155.1.length : Int) = 2 then (if 1 < (bt155.1.length : Int) then (if (rdOf ByteArray.empty bt155.1 1).toList = ([98] : List UInt8) then (if bt159.2 = 40 then (if bt166.2.2 = 0 then (if (bt166.1.length : Int) = 32 then (if 0 < (bt166.1.length : Int) then (if (rd bt166.1 0) = 1 then (if 2 < (bt166.1.length : Int) then (if (rd bt166.1 2) = 164 then (if 4 < (bt166.1.length : Int) then (if (rd bt166.1 4) = 3 then (if 7 < (bt166.1.length : Int) then (if (rd bt166.1 7) = 1 then (if 8 < (bt166.1.length : Int) then (some ((rd bt166.1 8) == 44)) else (none)) else (some false)) else (none)) else (some false)) else (none)) else (some false)) else (none)) else (some false)) else (none)) else (some false)) else (some false)) else (some false)) else (some false)) else (none)) else (some false)) else (some false)) else (some false))) else (some false))) else (some false)) else (some false)) else (some false)) else (some false)) else (some false)))))
theorem majordomolaw03_shown.mono : ∀ k, LeO (majordomolaw03_shown.f k ) (majordomolaw03_shown.f (k + 1) ) := by
  intro  k
  unfold majordomolaw03_shown.f
  repeat' first
      | (with_reducible exact layout_Path.mono _ _)
      | (with_reducible exact LeO.refl _)
      | (with_reducible exact LeO.none _)
      | (with_reducible refine LeO.ite ?_ ?_)
      | (with_reducible refine LeO.bind ?_ (fun _ => ?_))
      | exact layout_Path.mono _ _
      | exact LeO.none _
      | refine LeO.ite ?_ ?_
      | refine LeO.bind ?_ (fun _ => ?_)
set_option maxHeartbeats 8000000 in
set_option maxRecDepth 100000 in
theorem majordomolaw03_shown.calls (k : Nat)  (r : Bool) (w : World) (hamb : Amb w) (h : majordomolaw03_shown.f k  = some r) :
    Calls Tryd.prog 11 #[] w fun e w' => e = .returned (.bool r) ∧ Below w.heap.size w w' := by
  have hu24 := Tryd.underlying24
  have hu37 := Tryd.underlying37
  have HPIN : r = true := Option.some.inj ((at_rounds majordomolaw03_shown.mono (Nat.le_max_left k 60) h).symm.trans (at_rounds majordomolaw03_shown.mono (Nat.le_max_right k 60) (by decide +kernel)))
  have HAMB := Aside0.mk hamb
  clear hamb
  have HB := Aside0.mk (Below.refl w.heap.size w)
  have H : ((layout_Of.f 512).bind fun bt145 => ((layout_Path.f k (⟨#[47, 97, 47, 98]⟩ : ByteArray)).bind fun bt155 => ((layout_Path.f k (⟨#[47, 46, 46]⟩ : ByteArray)).bind fun bt159 => ((layout_PutNode.f 1 420 3 (([300] : List Int)) 0).bind fun bt166 => (if bt145.2.2.2.2.2.2.2.2 = 0 then (if bt145.2.2.2.2.1 = 201 then (if bt145.2.2.2.2.2.1 = 202 then (if bt145.2.2.2.2.2.2.1 = 234 then (if bt145.2.2.2.2.2.2.2.1 = 64 then ((layout_Cost.f 1 385).bind fun t173 => (if t173 = 8 then ((layout_Cost.f 2 16).bind fun t174 => (if t174 = 9 then (if bt155.2 = 0 then (if (bt155.1.length : Int) = 2 then (if 1 < (bt155.1.length : Int) then (if (rdOf ByteArray.empty bt155.1 1).toList = ([98] : List UInt8) then (if bt159.2 = 40 then (if bt166.2.2 = 0 then (if (bt166.1.length : Int) = 32 then (if 0 < (bt166.1.length : Int) then (if (rd bt166.1 0) = 1 then (if 2 < (bt166.1.length : Int) then (if (rd bt166.1 2) = 164 then (if 4 < (bt166.1.length : Int) then (if (rd bt166.1 4) = 3 then (if 7 < (bt166.1.length : Int) then (if (rd bt166.1 7) = 1 then (if 8 < (bt166.1.length : Int) then (some ((rd bt166.1 8) == 44)) else (none)) else (some false)) else (none)) else (some false)) else (none)) else (some false)) else (none)) else (some false)) else (none)) else (some false)) else (some false)) else (some false)) else (some false)) else (none)) else (some false)) else (some false)) else (some false))) else (some false))) else (some false)) else (some false)) else (some false)) else (some false)) else (some false)))))) = some r := h
  clear h
  replace H := Option.bind_eq_some_iff.mp H
  obtain ⟨⟨t145, t146, t147, t148, t149, t150, t151, t152, t153⟩, A10, H⟩ := H
  replace H : ((layout_Path.f k (⟨#[47, 97, 47, 98]⟩ : ByteArray)).bind fun bt155 => ((layout_Path.f k (⟨#[47, 46, 46]⟩ : ByteArray)).bind fun bt159 => ((layout_PutNode.f 1 420 3 (([300] : List Int)) 0).bind fun bt166 => (if t153 = 0 then (if t149 = 201 then (if t150 = 202 then (if t151 = 234 then (if t152 = 64 then ((layout_Cost.f 1 385).bind fun t173 => (if t173 = 8 then ((layout_Cost.f 2 16).bind fun t174 => (if t174 = 9 then (if bt155.2 = 0 then (if (bt155.1.length : Int) = 2 then (if 1 < (bt155.1.length : Int) then (if (rdOf ByteArray.empty bt155.1 1).toList = ([98] : List UInt8) then (if bt159.2 = 40 then (if bt166.2.2 = 0 then (if (bt166.1.length : Int) = 32 then (if 0 < (bt166.1.length : Int) then (if (rd bt166.1 0) = 1 then (if 2 < (bt166.1.length : Int) then (if (rd bt166.1 2) = 164 then (if 4 < (bt166.1.length : Int) then (if (rd bt166.1 4) = 3 then (if 7 < (bt166.1.length : Int) then (if (rd bt166.1 7) = 1 then (if 8 < (bt166.1.length : Int) then (some ((rd bt166.1 8) == 44)) else (none)) else (some false)) else (none)) else (some false)) else (none)) else (some false)) else (none)) else (some false)) else (none)) else (some false)) else (some false)) else (some false)) else (some false)) else (none)) else (some false)) else (some false)) else (some false))) else (some false))) else (some false)) else (some false)) else (some false)) else (some false)) else (some false))))) = some r := H
  have A1 := Aside0.mk A10
  clear A10
  replace H := Option.bind_eq_some_iff.mp H
  obtain ⟨⟨t155, t156⟩, A20, H⟩ := H
  replace H : ((layout_Path.f k (⟨#[47, 46, 46]⟩ : ByteArray)).bind fun bt159 => ((layout_PutNode.f 1 420 3 (([300] : List Int)) 0).bind fun bt166 => (if t153 = 0 then (if t149 = 201 then (if t150 = 202 then (if t151 = 234 then (if t152 = 64 then ((layout_Cost.f 1 385).bind fun t173 => (if t173 = 8 then ((layout_Cost.f 2 16).bind fun t174 => (if t174 = 9 then (if t156 = 0 then (if (t155.length : Int) = 2 then (if 1 < (t155.length : Int) then (if (rdOf ByteArray.empty t155 1).toList = ([98] : List UInt8) then (if bt159.2 = 40 then (if bt166.2.2 = 0 then (if (bt166.1.length : Int) = 32 then (if 0 < (bt166.1.length : Int) then (if (rd bt166.1 0) = 1 then (if 2 < (bt166.1.length : Int) then (if (rd bt166.1 2) = 164 then (if 4 < (bt166.1.length : Int) then (if (rd bt166.1 4) = 3 then (if 7 < (bt166.1.length : Int) then (if (rd bt166.1 7) = 1 then (if 8 < (bt166.1.length : Int) then (some ((rd bt166.1 8) == 44)) else (none)) else (some false)) else (none)) else (some false)) else (none)) else (some false)) else (none)) else (some false)) else (none)) else (some false)) else (some false)) else (some false)) else (some false)) else (none)) else (some false)) else (some false)) else (some false))) else (some false))) else (some false)) else (some false)) else (some false)) else (some false)) else (some false)))) = some r := H
  have A2 := Aside0.mk A20
  clear A20
  replace H := Option.bind_eq_some_iff.mp H
  obtain ⟨⟨t159, t160⟩, A30, H⟩ := H
  replace H : ((layout_PutNode.f 1 420 3 (([300] : List Int)) 0).bind fun bt166 => (if t153 = 0 then (if t149 = 201 then (if t150 = 202 then (if t151 = 234 then (if t152 = 64 then ((layout_Cost.f 1 385).bind fun t173 => (if t173 = 8 then ((layout_Cost.f 2 16).bind fun t174 => (if t174 = 9 then (if t156 = 0 then (if (t155.length : Int) = 2 then (if 1 < (t155.length : Int) then (if (rdOf ByteArray.empty t155 1).toList = ([98] : List UInt8) then (if t160 = 40 then (if bt166.2.2 = 0 then (if (bt166.1.length : Int) = 32 then (if 0 < (bt166.1.length : Int) then (if (rd bt166.1 0) = 1 then (if 2 < (bt166.1.length : Int) then (if (rd bt166.1 2) = 164 then (if 4 < (bt166.1.length : Int) then (if (rd bt166.1 4) = 3 then (if 7 < (bt166.1.length : Int) then (if (rd bt166.1 7) = 1 then (if 8 < (bt166.1.length : Int) then (some ((rd bt166.1 8) == 44)) else (none)) else (some false)) else (none)) else (some false)) else (none)) else (some false)) else (none)) else (some false)) else (none)) else (some false)) else (some false)) else (some false)) else (some false)) else (none)) else (some false)) else (some false)) else (some false))) else (some false))) else (some false)) else (some false)) else (some false)) else (some false)) else (some false))) = some r := H
  have A3 := Aside0.mk A30
  clear A30
  obtain ⟨y163, hy163⟩ : ∃ y_ : List Int, y_ = (([300] : List Int)) := ⟨_, rfl⟩
  replace H : ((layout_PutNode.f 1 420 3 y163 0).bind fun bt166 => (if t153 = 0 then (if t149 = 201 then (if t150 = 202 then (if t151 = 234 then (if t152 = 64 then ((layout_Cost.f 1 385).bind fun t173 => (if t173 = 8 then ((layout_Cost.f 2 16).bind fun t174 => (if t174 = 9 then (if t156 = 0 then (if (t155.length : Int) = 2 then (if 1 < (t155.length : Int) then (if (rdOf ByteArray.empty t155 1).toList = ([98] : List UInt8) then (if t160 = 40 then (if bt166.2.2 = 0 then (if (bt166.1.length : Int) = 32 then (if 0 < (bt166.1.length : Int) then (if (rd bt166.1 0) = 1 then (if 2 < (bt166.1.length : Int) then (if (rd bt166.1 2) = 164 then (if 4 < (bt166.1.length : Int) then (if (rd bt166.1 4) = 3 then (if 7 < (bt166.1.length : Int) then (if (rd bt166.1 7) = 1 then (if 8 < (bt166.1.length : Int) then (some ((rd bt166.1 8) == 44)) else (none)) else (some false)) else (none)) else (some false)) else (none)) else (some false)) else (none)) else (some false)) else (none)) else (some false)) else (some false)) else (some false)) else (some false)) else (none)) else (some false)) else (some false)) else (some false))) else (some false))) else (some false)) else (some false)) else (some false)) else (some false)) else (some false))) = some r := by first | (rw [hy163]; with_reducible exact H) | (have H2_ := (Option.bind_some _ _).symm.trans H; rw [hy163]; with_reducible exact H2_) | (have H2_ := (Option.bind_some _ _).symm.trans H; with_reducible exact H2_) | with_reducible exact H | (rw [hy163]; exact H) | exact H
  have Ny163 := Aside0.mk hy163
  clear hy163
  replace H := Option.bind_eq_some_iff.mp H
  obtain ⟨⟨t166, t169, t172⟩, A40, H⟩ := H
  replace H : (if t153 = 0 then (if t149 = 201 then (if t150 = 202 then (if t151 = 234 then (if t152 = 64 then ((layout_Cost.f 1 385).bind fun t173 => (if t173 = 8 then ((layout_Cost.f 2 16).bind fun t174 => (if t174 = 9 then (if t156 = 0 then (if (t155.length : Int) = 2 then (if 1 < (t155.length : Int) then (if (rdOf ByteArray.empty t155 1).toList = ([98] : List UInt8) then (if t160 = 40 then (if t172 = 0 then (if (t166.length : Int) = 32 then (if 0 < (t166.length : Int) then (if (rd t166 0) = 1 then (if 2 < (t166.length : Int) then (if (rd t166 2) = 164 then (if 4 < (t166.length : Int) then (if (rd t166 4) = 3 then (if 7 < (t166.length : Int) then (if (rd t166 7) = 1 then (if 8 < (t166.length : Int) then (some ((rd t166 8) == 44)) else (none)) else (some false)) else (none)) else (some false)) else (none)) else (some false)) else (none)) else (some false)) else (none)) else (some false)) else (some false)) else (some false)) else (some false)) else (none)) else (some false)) else (some false)) else (some false))) else (some false))) else (some false)) else (some false)) else (some false)) else (some false)) else (some false)) = some r := H
  have A4 := Aside0.mk A40
  clear A40
  by_cases c5 : t153 = 0
  · rw [if_pos c5] at H
    have c5b0 : (t153 == 0) = true := beq_iff_eq.mpr c5
    have c5b1 : (t153 != 0) = false := bne_eq_false_iff_eq.mpr c5
    clear c5
    by_cases c6 : t149 = 201
    · rw [if_pos c6] at H
      have c6b0 : (t149 == 201) = true := beq_iff_eq.mpr c6
      have c6b1 : (t149 != 201) = false := bne_eq_false_iff_eq.mpr c6
      clear c6
      by_cases c7 : t150 = 202
      · rw [if_pos c7] at H
        have c7b0 : (t150 == 202) = true := beq_iff_eq.mpr c7
        have c7b1 : (t150 != 202) = false := bne_eq_false_iff_eq.mpr c7
        clear c7
        by_cases c8 : t151 = 234
        · rw [if_pos c8] at H
          have c8b0 : (t151 == 234) = true := beq_iff_eq.mpr c8
          have c8b1 : (t151 != 234) = false := bne_eq_false_iff_eq.mpr c8
          clear c8
          by_cases c9 : t152 = 64
          · rw [if_pos c9] at H
            have c9b0 : (t152 == 64) = true := beq_iff_eq.mpr c9
            have c9b1 : (t152 != 64) = false := bne_eq_false_iff_eq.mpr c9
            clear c9
            replace H := Option.bind_eq_some_iff.mp H
            obtain ⟨t173, A100, H⟩ := H
            replace H : (if t173 = 8 then ((layout_Cost.f 2 16).bind fun t174 => (if t174 = 9 then (if t156 = 0 then (if (t155.length : Int) = 2 then (if 1 < (t155.length : Int) then (if (rdOf ByteArray.empty t155 1).toList = ([98] : List UInt8) then (if t160 = 40 then (if t172 = 0 then (if (t166.length : Int) = 32 then (if 0 < (t166.length : Int) then (if (rd t166 0) = 1 then (if 2 < (t166.length : Int) then (if (rd t166 2) = 164 then (if 4 < (t166.length : Int) then (if (rd t166 4) = 3 then (if 7 < (t166.length : Int) then (if (rd t166 7) = 1 then (if 8 < (t166.length : Int) then (some ((rd t166 8) == 44)) else (none)) else (some false)) else (none)) else (some false)) else (none)) else (some false)) else (none)) else (some false)) else (none)) else (some false)) else (some false)) else (some false)) else (some false)) else (none)) else (some false)) else (some false)) else (some false))) else (some false)) = some r := H
            have A10 := Aside0.mk A100
            clear A100
            by_cases c11 : t173 = 8
            · rw [if_pos c11] at H
              have c11b0 : (t173 == 8) = true := beq_iff_eq.mpr c11
              have c11b1 : (t173 != 8) = false := bne_eq_false_iff_eq.mpr c11
              clear c11
              replace H := Option.bind_eq_some_iff.mp H
              obtain ⟨t174, A120, H⟩ := H
              replace H : (if t174 = 9 then (if t156 = 0 then (if (t155.length : Int) = 2 then (if 1 < (t155.length : Int) then (if (rdOf ByteArray.empty t155 1).toList = ([98] : List UInt8) then (if t160 = 40 then (if t172 = 0 then (if (t166.length : Int) = 32 then (if 0 < (t166.length : Int) then (if (rd t166 0) = 1 then (if 2 < (t166.length : Int) then (if (rd t166 2) = 164 then (if 4 < (t166.length : Int) then (if (rd t166 4) = 3 then (if 7 < (t166.length : Int) then (if (rd t166 7) = 1 then (if 8 < (t166.length : Int) then (some ((rd t166 8) == 44)) else (none)) else (some false)) else (none)) else (some false)) else (none)) else (some false)) else (none)) else (some false)) else (none)) else (some false)) else (some false)) else (some false)) else (some false)) else (none)) else (some false)) else (some false)) else (some false)) = some r := H
              have A12 := Aside0.mk A120
              clear A120
              by_cases c13 : t174 = 9
              · rw [if_pos c13] at H
                have c13b0 : (t174 == 9) = true := beq_iff_eq.mpr c13
                have c13b1 : (t174 != 9) = false := bne_eq_false_iff_eq.mpr c13
                clear c13
                by_cases c14 : t156 = 0
                · rw [if_pos c14] at H
                  have c14b0 : (t156 == 0) = true := beq_iff_eq.mpr c14
                  have c14b1 : (t156 != 0) = false := bne_eq_false_iff_eq.mpr c14
                  clear c14
                  by_cases c15 : (t155.length : Int) = 2
                  · rw [if_pos c15] at H
                    have c15b0 : ((t155.length : Int) == 2) = true := beq_iff_eq.mpr c15
                    have c15b1 : ((t155.length : Int) != 2) = false := bne_eq_false_iff_eq.mpr c15
                    clear c15
                    by_cases c16 : 1 < (t155.length : Int)
                    · rw [if_pos c16] at H
                      have c16b0 : decide (1 < (t155.length : Int)) = true := decide_eq_true c16
                      have c16b1 : decide (1 < t155.length) = true := decide_eq_true (by omega)
                      clear c16
                      by_cases c17 : (rdOf ByteArray.empty t155 1).toList = ([98] : List UInt8)
                      · rw [if_pos c17] at H
                        have c17b0 : ((rdOf ByteArray.empty t155 1).toList == ([98] : List UInt8)) = true := beq_iff_eq.mpr c17
                        have c17b1 : ((rdOf ByteArray.empty t155 1).toList != ([98] : List UInt8)) = false := bne_eq_false_iff_eq.mpr c17
                        clear c17
                        by_cases c18 : t160 = 40
                        · rw [if_pos c18] at H
                          have c18b0 : (t160 == 40) = true := beq_iff_eq.mpr c18
                          have c18b1 : (t160 != 40) = false := bne_eq_false_iff_eq.mpr c18
                          clear c18
                          by_cases c19 : t172 = 0
                          · rw [if_pos c19] at H
                            have c19b0 : (t172 == 0) = true := beq_iff_eq.mpr c19
                            have c19b1 : (t172 != 0) = false := bne_eq_false_iff_eq.mpr c19
                            clear c19
                            by_cases c20 : (t166.length : Int) = 32
                            · rw [if_pos c20] at H
                              have c20b0 : ((t166.length : Int) == 32) = true := beq_iff_eq.mpr c20
                              have c20b1 : ((t166.length : Int) != 32) = false := bne_eq_false_iff_eq.mpr c20
                              clear c20
                              by_cases c21 : 0 < (t166.length : Int)
                              · rw [if_pos c21] at H
                                have c21b0 : decide (0 < (t166.length : Int)) = true := decide_eq_true c21
                                have c21b1 : decide (0 < t166.length) = true := decide_eq_true (by omega)
                                clear c21
                                by_cases c22 : (rd t166 0) = 1
                                · rw [if_pos c22] at H
                                  have c22b0 : ((rd t166 0) == 1) = true := beq_iff_eq.mpr c22
                                  have c22b1 : ((rd t166 0) != 1) = false := bne_eq_false_iff_eq.mpr c22
                                  clear c22
                                  by_cases c23 : 2 < (t166.length : Int)
                                  · rw [if_pos c23] at H
                                    have c23b0 : decide (2 < (t166.length : Int)) = true := decide_eq_true c23
                                    have c23b1 : decide (2 < t166.length) = true := decide_eq_true (by omega)
                                    clear c23
                                    by_cases c24 : (rd t166 2) = 164
                                    · rw [if_pos c24] at H
                                      have c24b0 : ((rd t166 2) == 164) = true := beq_iff_eq.mpr c24
                                      have c24b1 : ((rd t166 2) != 164) = false := bne_eq_false_iff_eq.mpr c24
                                      clear c24
                                      by_cases c25 : 4 < (t166.length : Int)
                                      · rw [if_pos c25] at H
                                        have c25b0 : decide (4 < (t166.length : Int)) = true := decide_eq_true c25
                                        have c25b1 : decide (4 < t166.length) = true := decide_eq_true (by omega)
                                        clear c25
                                        by_cases c26 : (rd t166 4) = 3
                                        · rw [if_pos c26] at H
                                          have c26b0 : ((rd t166 4) == 3) = true := beq_iff_eq.mpr c26
                                          have c26b1 : ((rd t166 4) != 3) = false := bne_eq_false_iff_eq.mpr c26
                                          clear c26
                                          by_cases c27 : 7 < (t166.length : Int)
                                          · rw [if_pos c27] at H
                                            have c27b0 : decide (7 < (t166.length : Int)) = true := decide_eq_true c27
                                            have c27b1 : decide (7 < t166.length) = true := decide_eq_true (by omega)
                                            clear c27
                                            by_cases c28 : (rd t166 7) = 1
                                            · rw [if_pos c28] at H
                                              have c28b0 : ((rd t166 7) == 1) = true := beq_iff_eq.mpr c28
                                              have c28b1 : ((rd t166 7) != 1) = false := bne_eq_false_iff_eq.mpr c28
                                              clear c28
                                              by_cases c29 : 8 < (t166.length : Int)
                                              · rw [if_pos c29] at H
                                                have c29b0 : decide (8 < (t166.length : Int)) = true := decide_eq_true c29
                                                have c29b1 : decide (8 < t166.length) = true := decide_eq_true (by omega)
                                                clear c29
                                                obtain rfl := Option.some.inj H
                                                go_enter Tryd.func11, Tryd.ntmps11
                                                go_wp2_with (first | ((with_reducible refine gate_callee (f := 12) rfl ?_); refine goesL_ (some 11) rfl rfl Tryd.func12 (by kernel_rfl) rfl #[.int .i64 512] rfl (by (try simp only [List.map_toArray, List.map_cons, List.map_nil]); first | done | rfl | (simp only [List.length_drop, List.length_take]; rfl)) ?_; (with_reducible refine (layout_Of.calls 512 t145 t146 t147 t148 t149 t150 t151 t152 t153 _ A1.out).mono ?_); rintro e w30 ⟨rfl, hb⟩; refine ⟨_, rfl, ?_⟩; have n0_ := Aside0.mk (below_step (by repeat (first | (with_reducible first | exact HB.out | apply below_alloc | apply pw_below_drewN | apply below_drew1) | exact HB.out)) hb); clear HB; have HB := n0_; clear n0_; (try clear hb); (try clear hb2); (try clear hk); (try clear hi)) | ((with_reducible refine gate_dst (N := 1) rfl ?_); (try (refine gate_guard (by rfl) ?_; dsimp only)); refine box_event ?hg (N := 1) ?hd (cs := #[.int .i64 0, .int .i64 0, .int .i64 0, .int .i64 0, .int .i64 0, .int .i64 0, .int .i64 0, .int .i64 0]) (t := 24) ?hr ?_; (case hd => rfl); (case hg => rfl); (case hr => first | (go_simp; done) | (go_simp; rfl)); intro gb154 hg w31 hbox hb; have n0_ := Aside0.mk (below_step (by repeat (first | (with_reducible first | exact HB.out | apply below_alloc | apply pw_below_drewN | apply below_drew1) | exact HB.out)) hb); have n1_ := Aside0.mk (hbox); have n2_ := Aside0.mk ((by rw [hg]; exact (below_size (by repeat (first | (with_reducible first | exact HB.out | apply below_alloc | apply pw_below_drewN | apply below_drew1) | exact HB.out))) : w.heap.size ≤ gb154)); have n3_ := Aside0.mk ((by rw [hg]; exact (below_size (by repeat (first | (with_reducible first | exact HB.out | apply below_alloc | apply pw_below_drewN | apply below_drew1) | exact HB.out))) : w.heap.size ≤ gb154)); clear HB; have HB := n0_; have BK154 := n1_; have GW154 := n2_; have GE154 := n3_; clear n0_ n1_ n2_ n3_; clear hb hbox hg; have hcz32_0 : w31.cell? ⟨gb154, 0, none⟩ = some (.int .i64 0) := (blk_cell BK154.out 0).trans rfl; have hcz32_1 : w31.cell? ⟨gb154, 1, none⟩ = some (.int .i64 0) := (blk_cell BK154.out 1).trans rfl; have hcz32_2 : w31.cell? ⟨gb154, 2, none⟩ = some (.int .i64 0) := (blk_cell BK154.out 2).trans rfl; have hcz32_3 : w31.cell? ⟨gb154, 3, none⟩ = some (.int .i64 0) := (blk_cell BK154.out 3).trans rfl; have hcz32_4 : w31.cell? ⟨gb154, 4, none⟩ = some (.int .i64 0) := (blk_cell BK154.out 4).trans rfl; have hcz32_5 : w31.cell? ⟨gb154, 5, none⟩ = some (.int .i64 0) := (blk_cell BK154.out 5).trans rfl; have hcz32_6 : w31.cell? ⟨gb154, 6, none⟩ = some (.int .i64 0) := (blk_cell BK154.out 6).trans rfl; have hcz32_7 : w31.cell? ⟨gb154, 7, none⟩ = some (.int .i64 0) := (blk_cell BK154.out 7).trans rfl; have hfz32_0 := blk_frozen BK154.out 0; have hfz32_1 := blk_frozen BK154.out 1; have hfz32_2 := blk_frozen BK154.out 2; have hfz32_3 := blk_frozen BK154.out 3; have hfz32_4 := blk_frozen BK154.out 4; have hfz32_5 := blk_frozen BK154.out 5; have hfz32_6 := blk_frozen BK154.out 6; have hfz32_7 := blk_frozen BK154.out 7) | ((with_reducible refine gate_callee (f := 16) rfl ?_); refine goesL_ (some 15) rfl rfl Tryd.func16 (by kernel_rfl) rfl #[.string (⟨#[47, 97, 47, 98]⟩ : ByteArray)] rfl (by (try simp only [List.map_toArray, List.map_cons, List.map_nil]); first | done | rfl | (simp only [List.length_drop, List.length_take]; rfl)) ?_; (with_reducible refine (layout_Path.calls k (⟨#[47, 97, 47, 98]⟩ : ByteArray) t155 t156 _ A2.out).mono ?_); rintro e w33 ⟨v157, rfl, ho0, hb⟩; refine ⟨_, rfl, ?_⟩; have n0_ := Aside0.mk (Kd.R_lower ho0 (below_size (by repeat (first | (with_reducible first | exact HB.out | apply below_alloc | apply pw_below_drewN | apply below_drew1 | refine below_set ?_ GE154.out) | exact HB.out)))); have n1_ := Aside0.mk (blk_below (g := gb154) (o := .cells #[.int .i64 t145, .int .i64 t146, .int .i64 t147, .int .i64 t148, .int .i64 t149, .int .i64 t150, .int .i64 t151, .int .i64 t152] 24 (0, 0)) (by (with_reducible repeat (first | refine blk_drewN ?_ _ | refine blk_drew ?_ | refine blk_alloc ?_ _)); refine blk_put (cs := #[.int .i64 t145, .int .i64 t146, .int .i64 t147, .int .i64 t148, .int .i64 t149, .int .i64 t150, .int .i64 t151, .int .i64 0]) ?_ 7 _ rfl; (with_reducible repeat (first | refine blk_drewN ?_ _ | refine blk_drew ?_ | refine blk_alloc ?_ _)); refine blk_put (cs := #[.int .i64 t145, .int .i64 t146, .int .i64 t147, .int .i64 t148, .int .i64 t149, .int .i64 t150, .int .i64 0, .int .i64 0]) ?_ 6 _ rfl; (with_reducible repeat (first | refine blk_drewN ?_ _ | refine blk_drew ?_ | refine blk_alloc ?_ _)); refine blk_put (cs := #[.int .i64 t145, .int .i64 t146, .int .i64 t147, .int .i64 t148, .int .i64 t149, .int .i64 0, .int .i64 0, .int .i64 0]) ?_ 5 _ rfl; (with_reducible repeat (first | refine blk_drewN ?_ _ | refine blk_drew ?_ | refine blk_alloc ?_ _)); refine blk_put (cs := #[.int .i64 t145, .int .i64 t146, .int .i64 t147, .int .i64 t148, .int .i64 0, .int .i64 0, .int .i64 0, .int .i64 0]) ?_ 4 _ rfl; (with_reducible repeat (first | refine blk_drewN ?_ _ | refine blk_drew ?_ | refine blk_alloc ?_ _)); refine blk_put (cs := #[.int .i64 t145, .int .i64 t146, .int .i64 t147, .int .i64 0, .int .i64 0, .int .i64 0, .int .i64 0, .int .i64 0]) ?_ 3 _ rfl; (with_reducible repeat (first | refine blk_drewN ?_ _ | refine blk_drew ?_ | refine blk_alloc ?_ _)); refine blk_put (cs := #[.int .i64 t145, .int .i64 t146, .int .i64 0, .int .i64 0, .int .i64 0, .int .i64 0, .int .i64 0, .int .i64 0]) ?_ 2 _ rfl; (with_reducible repeat (first | refine blk_drewN ?_ _ | refine blk_drew ?_ | refine blk_alloc ?_ _)); refine blk_put (cs := #[.int .i64 t145, .int .i64 0, .int .i64 0, .int .i64 0, .int .i64 0, .int .i64 0, .int .i64 0, .int .i64 0]) ?_ 1 _ rfl; (with_reducible repeat (first | refine blk_drewN ?_ _ | refine blk_drew ?_ | refine blk_alloc ?_ _)); refine blk_put (cs := #[.int .i64 0, .int .i64 0, .int .i64 0, .int .i64 0, .int .i64 0, .int .i64 0, .int .i64 0, .int .i64 0]) ?_ 0 _ rfl; (with_reducible repeat (first | refine blk_drewN ?_ _ | refine blk_drew ?_ | refine blk_alloc ?_ _)); exact BK154.out) hb); have n2_ := Aside0.mk (below_step (by repeat (first | (with_reducible first | exact HB.out | apply below_alloc | apply pw_below_drewN | apply below_drew1 | refine below_set ?_ GE154.out) | exact HB.out)) hb); clear BK154; clear HB; have HO158 := n0_; have BK154 := n1_; have HB := n2_; clear n0_ n1_ n2_; (try clear hb); (try clear hb2); (try clear hk); (try clear hi); (try clear ho0)) | ((with_reducible refine gate_callee (f := 16) rfl ?_); refine goesL_ (some 19) rfl rfl Tryd.func16 (by kernel_rfl) rfl #[.string (⟨#[47, 46, 46]⟩ : ByteArray)] rfl (by (try simp only [List.map_toArray, List.map_cons, List.map_nil]); first | done | rfl | (simp only [List.length_drop, List.length_take]; rfl)) ?_; (with_reducible refine (layout_Path.calls k (⟨#[47, 46, 46]⟩ : ByteArray) t159 t160 _ A3.out).mono ?_); rintro e w34 ⟨v161, rfl, ho0, hb⟩; refine ⟨_, rfl, ?_⟩; have n0_ := Aside0.mk (Kd.R_elder' (by (with_reducible repeat (first | apply Kd.R_alloc | apply Kd.R_drewN | apply Kd.R_drew)); exact HO158.out) (Kd.R_base ho0) hb); have n1_ := Aside0.mk (Kd.R_lower (Kd.R_new' ho0 (Kd.R_lt (by (with_reducible repeat (first | apply Kd.R_alloc | apply Kd.R_drewN | apply Kd.R_drew)); exact HO158.out))) (below_size (by repeat (first | (with_reducible first | exact HB.out | apply below_alloc | apply pw_below_drewN | apply below_drew1 | refine below_set ?_ GE154.out) | exact HB.out)))); have n2_ := Aside0.mk (blk_below (g := gb154) (o := .cells #[.int .i64 t145, .int .i64 t146, .int .i64 t147, .int .i64 t148, .int .i64 t149, .int .i64 t150, .int .i64 t151, .int .i64 t152] 24 (0, 0)) (by (with_reducible repeat (first | refine blk_drewN ?_ _ | refine blk_drew ?_ | refine blk_alloc ?_ _)); exact BK154.out) hb); have n3_ := Aside0.mk (below_step (by repeat (first | (with_reducible first | exact HB.out | apply below_alloc | apply pw_below_drewN | apply below_drew1 | refine below_set ?_ GE154.out) | exact HB.out)) hb); clear HO158; clear BK154; clear HB; have HO158 := n0_; have HO162 := n1_; have BK154 := n2_; have HB := n3_; clear n0_ n1_ n2_ n3_; (try clear hb); (try clear hb2); (try clear hk); (try clear hi); (try clear ho0)) | ((with_reducible refine gate_dst (N := 23) rfl ?_); (try (refine gate_guard (by rfl) ?_; dsimp only)); refine Kd.R_lit (Kd.int .i64) _ 3 ?hg (N := 23) ?hd (xs := ([300] : List Int)) (inner := [.int .i64 300]) (ok := fun _ => True) (okp := fun _ => True) ?hr ?hp (fun _ hk => hk) trivial (Below.refl _ _) (Nat.le_refl _) (by simp) ?_; (case hd => rfl); (case hg => rfl); (case hr => first | (go_simp; done) | (go_simp; rfl)); (case hp => exact (Reps.one (show Kd.M (Kd.int .i64) _ _ _ 300 [.int .i64 300] from rfl) (Reps.none _ _))); intro v164 w35 ho36 hb hg_ hnew_; clear hg_ hnew_; (first | rw [← Ny163.out] at ho36 | (simp only [Int.reduceToNat] at ho36; rw [← Ny163.out] at ho36)); have n0_ := Aside0.mk (Kd.R_below (by (with_reducible repeat (first | apply Kd.R_alloc | apply Kd.R_drewN | apply Kd.R_drew)); exact HO158.out) hb); have n1_ := Aside0.mk (Kd.R_below (by (with_reducible repeat (first | apply Kd.R_alloc | apply Kd.R_drewN | apply Kd.R_drew)); exact HO162.out) hb); have n2_ := Aside0.mk (Kd.R_lower ho36 (below_size (by repeat (first | (with_reducible first | exact HB.out | apply below_alloc | apply pw_below_drewN | apply below_drew1 | refine below_set ?_ GE154.out) | exact HB.out)))); have n3_ := Aside0.mk (blk_below (g := gb154) (o := .cells #[.int .i64 t145, .int .i64 t146, .int .i64 t147, .int .i64 t148, .int .i64 t149, .int .i64 t150, .int .i64 t151, .int .i64 t152] 24 (0, 0)) (by (with_reducible repeat (first | refine blk_drewN ?_ _ | refine blk_drew ?_ | refine blk_alloc ?_ _)); exact BK154.out) hb); have n4_ := Aside0.mk (below_step (by repeat (first | (with_reducible first | exact HB.out | apply below_alloc | apply pw_below_drewN | apply below_drew1 | refine below_set ?_ GE154.out) | exact HB.out)) hb); clear HO158; clear HO162; clear BK154; clear HB; have HO158 := n0_; have HO162 := n1_; have HO165 := n2_; have BK154 := n3_; have HB := n4_; clear n0_ n1_ n2_ n3_ n4_; clear hb ho36; obtain ⟨Ao37, co37, eo37⟩ := Kd.R_slice HO165.out; subst eo37) | ((with_reducible refine gate_callee (f := 20) rfl ?_); refine goesL_ (some 25) rfl rfl Tryd.func20 (by kernel_rfl) rfl #[.agg #[.int .i64 1, .int .i64 420, .int .i64 3, .slice Ao37 y163.length co37, .int .i64 0]] rfl (by (try simp only [List.map_toArray, List.map_cons, List.map_nil]); first | done | rfl | (simp only [List.length_drop, List.length_take]; rfl)) ?_; (with_reducible refine (layout_PutNode.calls 1 420 3 _ _ y163 0 t166 t169 t172 _ ?side1 ?side2 ?side3 A4.out).mono ?_); (case side1 => repeat (first | exact (Kd.R_reads' HO165.out).2.2 | (with_reducible refine Kd.C_alloc ?_ _) | (with_reducible refine Kd.C_drewN ?_ _) | (with_reducible refine Kd.C_drew ?_))); (case side2 => exact (Kd.R_reads' HO165.out).2.1); (case side3 => first | exact Amb.below HAMB.out (by repeat (first | (with_reducible first | exact HB.out | apply below_alloc | apply pw_below_drewN | apply below_drew1 | refine below_set ?_ GE154.out) | exact HB.out)) | exact Amb.drawn HAMB.out (by repeat (first | exact Drawn0.refl _ | apply Drawn0.step))); rintro e w38 ⟨v167, v170, rfl, ho0, ho1, hb⟩; refine ⟨_, rfl, ?_⟩; have n0_ := Aside0.mk (Kd.R_below (by (with_reducible repeat (first | apply Kd.R_alloc | apply Kd.R_drewN | apply Kd.R_drew)); exact HO158.out) hb); have n1_ := Aside0.mk (Kd.R_below (by (with_reducible repeat (first | apply Kd.R_alloc | apply Kd.R_drewN | apply Kd.R_drew)); exact HO162.out) hb); have n2_ := Aside0.mk (Kd.R_below (by (with_reducible repeat (first | apply Kd.R_alloc | apply Kd.R_drewN | apply Kd.R_drew)); exact HO165.out) hb); have n3_ := Aside0.mk (Kd.R_lower ho0 (below_size (by repeat (first | (with_reducible first | exact HB.out | apply below_alloc | apply pw_below_drewN | apply below_drew1 | refine below_set ?_ GE154.out) | exact HB.out)))); have n4_ := Aside0.mk (Kd.R_lower ho1 (below_size (by repeat (first | (with_reducible first | exact HB.out | apply below_alloc | apply pw_below_drewN | apply below_drew1 | refine below_set ?_ GE154.out) | exact HB.out)))); have n5_ := Aside0.mk (blk_below (g := gb154) (o := .cells #[.int .i64 t145, .int .i64 t146, .int .i64 t147, .int .i64 t148, .int .i64 t149, .int .i64 t150, .int .i64 t151, .int .i64 t152] 24 (0, 0)) (by (with_reducible repeat (first | refine blk_drewN ?_ _ | refine blk_drew ?_ | refine blk_alloc ?_ _)); exact BK154.out) hb); have n6_ := Aside0.mk (below_step (by repeat (first | (with_reducible first | exact HB.out | apply below_alloc | apply pw_below_drewN | apply below_drew1 | refine below_set ?_ GE154.out) | exact HB.out)) hb); clear HO158; clear HO162; clear HO165; clear BK154; clear HB; have HO158 := n0_; have HO162 := n1_; have HO165 := n2_; have HO168 := n3_; have HO171 := n4_; have BK154 := n5_; have HB := n6_; clear n0_ n1_ n2_ n3_ n4_ n5_ n6_; (try clear hb); (try clear hb2); (try clear hk); (try clear hi); (try clear ho0); (try clear ho1); have hcz39_0 : w38.cell? ⟨gb154, 0, none⟩ = some (.int .i64 t145) := (blk_cell BK154.out 0).trans rfl; have hcz39_1 : w38.cell? ⟨gb154, 1, none⟩ = some (.int .i64 t146) := (blk_cell BK154.out 1).trans rfl; have hcz39_2 : w38.cell? ⟨gb154, 2, none⟩ = some (.int .i64 t147) := (blk_cell BK154.out 2).trans rfl; have hcz39_3 : w38.cell? ⟨gb154, 3, none⟩ = some (.int .i64 t148) := (blk_cell BK154.out 3).trans rfl; have hcz39_4 : w38.cell? ⟨gb154, 4, none⟩ = some (.int .i64 t149) := (blk_cell BK154.out 4).trans rfl; have hcz39_5 : w38.cell? ⟨gb154, 5, none⟩ = some (.int .i64 t150) := (blk_cell BK154.out 5).trans rfl; have hcz39_6 : w38.cell? ⟨gb154, 6, none⟩ = some (.int .i64 t151) := (blk_cell BK154.out 6).trans rfl; have hcz39_7 : w38.cell? ⟨gb154, 7, none⟩ = some (.int .i64 t152) := (blk_cell BK154.out 7).trans rfl; have hfz39_0 := blk_frozen BK154.out 0; have hfz39_1 := blk_frozen BK154.out 1; have hfz39_2 := blk_frozen BK154.out 2; have hfz39_3 := blk_frozen BK154.out 3; have hfz39_4 := blk_frozen BK154.out 4; have hfz39_5 := blk_frozen BK154.out 5; have hfz39_6 := blk_frozen BK154.out 6; have hfz39_7 := blk_frozen BK154.out 7) | (go_at_call 14; (with_reducible refine (layout_Cost.calls 1 385 t173 _ ?side1 A10.out).mono ?_); (case side1 => first | exact Amb.below HAMB.out (by repeat (first | (with_reducible first | exact HB.out | apply below_alloc | apply pw_below_drewN | apply below_drew1 | refine below_set ?_ GE154.out) | exact HB.out)) | exact Amb.drawn HAMB.out (by repeat (first | exact Drawn0.refl _ | apply Drawn0.step))); rintro e w40 ⟨rfl, hb⟩; have n0_ := Aside0.mk (Kd.R_below (by (with_reducible repeat (first | apply Kd.R_alloc | apply Kd.R_drewN | apply Kd.R_drew)); exact HO158.out) hb); have n1_ := Aside0.mk (Kd.R_below (by (with_reducible repeat (first | apply Kd.R_alloc | apply Kd.R_drewN | apply Kd.R_drew)); exact HO162.out) hb); have n2_ := Aside0.mk (Kd.R_below (by (with_reducible repeat (first | apply Kd.R_alloc | apply Kd.R_drewN | apply Kd.R_drew)); exact HO165.out) hb); have n3_ := Aside0.mk (Kd.R_below (by (with_reducible repeat (first | apply Kd.R_alloc | apply Kd.R_drewN | apply Kd.R_drew)); exact HO168.out) hb); have n4_ := Aside0.mk (Kd.R_below (by (with_reducible repeat (first | apply Kd.R_alloc | apply Kd.R_drewN | apply Kd.R_drew)); exact HO171.out) hb); have n5_ := Aside0.mk (blk_below (g := gb154) (o := .cells #[.int .i64 t145, .int .i64 t146, .int .i64 t147, .int .i64 t148, .int .i64 t149, .int .i64 t150, .int .i64 t151, .int .i64 t152] 24 (0, 0)) (by (with_reducible repeat (first | refine blk_drewN ?_ _ | refine blk_drew ?_ | refine blk_alloc ?_ _)); exact BK154.out) hb); have n6_ := Aside0.mk (below_step (by repeat (first | (with_reducible first | exact HB.out | apply below_alloc | apply pw_below_drewN | apply below_drew1 | refine below_set ?_ GE154.out) | exact HB.out)) hb); clear HO158; clear HO162; clear HO165; clear HO168; clear HO171; clear BK154; clear HB; have HO158 := n0_; have HO162 := n1_; have HO165 := n2_; have HO168 := n3_; have HO171 := n4_; have BK154 := n5_; have HB := n6_; clear n0_ n1_ n2_ n3_ n4_ n5_ n6_; (try clear hb); (try clear hb2); (try clear hk); (try clear hi)) | (go_at_call 14; (with_reducible refine (layout_Cost.calls 2 16 t174 _ ?side1 A12.out).mono ?_); (case side1 => first | exact Amb.below HAMB.out (by repeat (first | (with_reducible first | exact HB.out | apply below_alloc | apply pw_below_drewN | apply below_drew1 | refine below_set ?_ GE154.out) | exact HB.out)) | exact Amb.drawn HAMB.out (by repeat (first | exact Drawn0.refl _ | apply Drawn0.step))); rintro e w41 ⟨rfl, hb⟩; have n0_ := Aside0.mk (Kd.R_below (by (with_reducible repeat (first | apply Kd.R_alloc | apply Kd.R_drewN | apply Kd.R_drew)); exact HO158.out) hb); have n1_ := Aside0.mk (Kd.R_below (by (with_reducible repeat (first | apply Kd.R_alloc | apply Kd.R_drewN | apply Kd.R_drew)); exact HO162.out) hb); have n2_ := Aside0.mk (Kd.R_below (by (with_reducible repeat (first | apply Kd.R_alloc | apply Kd.R_drewN | apply Kd.R_drew)); exact HO165.out) hb); have n3_ := Aside0.mk (Kd.R_below (by (with_reducible repeat (first | apply Kd.R_alloc | apply Kd.R_drewN | apply Kd.R_drew)); exact HO168.out) hb); have n4_ := Aside0.mk (Kd.R_below (by (with_reducible repeat (first | apply Kd.R_alloc | apply Kd.R_drewN | apply Kd.R_drew)); exact HO171.out) hb); have n5_ := Aside0.mk (blk_below (g := gb154) (o := .cells #[.int .i64 t145, .int .i64 t146, .int .i64 t147, .int .i64 t148, .int .i64 t149, .int .i64 t150, .int .i64 t151, .int .i64 t152] 24 (0, 0)) (by (with_reducible repeat (first | refine blk_drewN ?_ _ | refine blk_drew ?_ | refine blk_alloc ?_ _)); exact BK154.out) hb); have n6_ := Aside0.mk (below_step (by repeat (first | (with_reducible first | exact HB.out | apply below_alloc | apply pw_below_drewN | apply below_drew1 | refine below_set ?_ GE154.out) | exact HB.out)) hb); clear HO158; clear HO162; clear HO165; clear HO168; clear HO171; clear BK154; clear HB; have HO158 := n0_; have HO162 := n1_; have HO165 := n2_; have HO168 := n3_; have HO171 := n4_; have BK154 := n5_; have HB := n6_; clear n0_ n1_ n2_ n3_ n4_ n5_ n6_; (try clear hb); (try clear hb2); (try clear hk); (try clear hi); obtain ⟨Ao42, co42, eo42⟩ := Kd.R_slice HO158.out; subst eo42; have p175 : 0 ≤ (1 : Int) := (by omega); have q175 : 1 < (t155.length : Int) := of_decide_eq_true (by first | (with_reducible assumption) | assumption); obtain ⟨ad175, e175, hx175_0⟩ := Kd.at_string (Kd.R_reads' HO158.out).2.2 1 p175 q175; cases e175; (try simp only [show (1 : Int).toNat = 1 from rfl, Nat.reduceMul, Nat.reduceEqDiff, Go.Addr.add, ↓reduceIte] at hx175_0); have qi175 : (1 < t155.length) = True := eq_true (by omega); (try rw [show ((1 : Int)).toNat = 1 from rfl] at hx175_0); replace p175 := eq_true p175; replace q175 := eq_true q175; obtain ⟨Ao43, co43, eo43⟩ := Kd.R_slice HO168.out; subst eo43; have p176 : 0 ≤ (0 : Int) := (by omega); have q176 : 0 < (t166.length : Int) := of_decide_eq_true (by first | (with_reducible assumption) | assumption); obtain ⟨ad176, e176, hx176_0⟩ := Kd.at_int (Kd.R_reads' HO168.out).2.2 0 p176 q176; cases e176; have qi176 : (0 < t166.length) = True := eq_true (by omega); (try rw [show ((0 : Int)).toNat = 0 from rfl] at hx176_0); (try rw [Addr.add_zero'] at hx176_0); replace p176 := eq_true p176; replace q176 := eq_true q176; have p177 : 0 ≤ (2 : Int) := (by omega); have q177 : 2 < (t166.length : Int) := of_decide_eq_true (by first | (with_reducible assumption) | assumption); obtain ⟨ad177, e177, hx177_0⟩ := Kd.at_int (Kd.R_reads' HO168.out).2.2 2 p177 q177; obtain rfl : ad176 = ad177 := (by injection e177); (try simp only [show (2 : Int).toNat = 2 from rfl, Nat.reduceMul, Nat.reduceEqDiff, Go.Addr.add, ↓reduceIte] at hx177_0); have qi177 : (2 < t166.length) = True := eq_true (by omega); (try rw [show ((2 : Int)).toNat = 2 from rfl] at hx177_0); replace p177 := eq_true p177; replace q177 := eq_true q177; have p178 : 0 ≤ (4 : Int) := (by omega); have q178 : 4 < (t166.length : Int) := of_decide_eq_true (by first | (with_reducible assumption) | assumption); obtain ⟨ad178, e178, hx178_0⟩ := Kd.at_int (Kd.R_reads' HO168.out).2.2 4 p178 q178; obtain rfl : ad176 = ad178 := (by injection e178); (try simp only [show (4 : Int).toNat = 4 from rfl, Nat.reduceMul, Nat.reduceEqDiff, Go.Addr.add, ↓reduceIte] at hx178_0); have qi178 : (4 < t166.length) = True := eq_true (by omega); (try rw [show ((4 : Int)).toNat = 4 from rfl] at hx178_0); replace p178 := eq_true p178; replace q178 := eq_true q178; have p179 : 0 ≤ (7 : Int) := (by omega); have q179 : 7 < (t166.length : Int) := of_decide_eq_true (by first | (with_reducible assumption) | assumption); obtain ⟨ad179, e179, hx179_0⟩ := Kd.at_int (Kd.R_reads' HO168.out).2.2 7 p179 q179; obtain rfl : ad176 = ad179 := (by injection e179); (try simp only [show (7 : Int).toNat = 7 from rfl, Nat.reduceMul, Nat.reduceEqDiff, Go.Addr.add, ↓reduceIte] at hx179_0); have qi179 : (7 < t166.length) = True := eq_true (by omega); (try rw [show ((7 : Int)).toNat = 7 from rfl] at hx179_0); replace p179 := eq_true p179; replace q179 := eq_true q179; have p180 : 0 ≤ (8 : Int) := (by omega); have q180 : 8 < (t166.length : Int) := of_decide_eq_true (by first | (with_reducible assumption) | assumption); obtain ⟨ad180, e180, hx180_0⟩ := Kd.at_int (Kd.R_reads' HO168.out).2.2 8 p180 q180; obtain rfl : ad176 = ad180 := (by injection e180); (try simp only [show (8 : Int).toNat = 8 from rfl, Nat.reduceMul, Nat.reduceEqDiff, Go.Addr.add, ↓reduceIte] at hx180_0); have qi180 : (8 < t166.length) = True := eq_true (by omega); (try rw [show ((8 : Int)).toNat = 8 from rfl] at hx180_0); replace p180 := eq_true p180; replace q180 := eq_true q180))
                                                go_ret
                                                exact ⟨by first | rfl | (simp [errW_none, errW_some] <;> rfl) | (simp [*, errW_none, errW_some] <;> rfl), by repeat (first | (with_reducible first | exact HB.out | apply below_alloc | apply pw_below_drewN | apply below_drew1 | refine below_set ?_ GE154.out) | exact HB.out)⟩
                                              · rw [if_neg c29] at H
                                                exact absurd H (by simp)
                                            · rw [if_neg c28] at H
                                              have c28b0 : ((rd t166 7) == 1) = false := beq_eq_false_iff_ne.mpr c28
                                              have c28b1 : ((rd t166 7) != 1) = true := bne_iff_ne.mpr c28
                                              exact absurd (H.trans (congrArg some HPIN)) (by simp)
                                          · rw [if_neg c27] at H
                                            exact absurd H (by simp)
                                        · rw [if_neg c26] at H
                                          have c26b0 : ((rd t166 4) == 3) = false := beq_eq_false_iff_ne.mpr c26
                                          have c26b1 : ((rd t166 4) != 3) = true := bne_iff_ne.mpr c26
                                          exact absurd (H.trans (congrArg some HPIN)) (by simp)
                                      · rw [if_neg c25] at H
                                        exact absurd H (by simp)
                                    · rw [if_neg c24] at H
                                      have c24b0 : ((rd t166 2) == 164) = false := beq_eq_false_iff_ne.mpr c24
                                      have c24b1 : ((rd t166 2) != 164) = true := bne_iff_ne.mpr c24
                                      exact absurd (H.trans (congrArg some HPIN)) (by simp)
                                  · rw [if_neg c23] at H
                                    exact absurd H (by simp)
                                · rw [if_neg c22] at H
                                  have c22b0 : ((rd t166 0) == 1) = false := beq_eq_false_iff_ne.mpr c22
                                  have c22b1 : ((rd t166 0) != 1) = true := bne_iff_ne.mpr c22
                                  exact absurd (H.trans (congrArg some HPIN)) (by simp)
                              · rw [if_neg c21] at H
                                exact absurd H (by simp)
                            · rw [if_neg c20] at H
                              have c20b0 : ((t166.length : Int) == 32) = false := beq_eq_false_iff_ne.mpr c20
                              have c20b1 : ((t166.length : Int) != 32) = true := bne_iff_ne.mpr c20
                              exact absurd (H.trans (congrArg some HPIN)) (by simp)
                          · rw [if_neg c19] at H
                            have c19b0 : (t172 == 0) = false := beq_eq_false_iff_ne.mpr c19
                            have c19b1 : (t172 != 0) = true := bne_iff_ne.mpr c19
                            exact absurd (H.trans (congrArg some HPIN)) (by simp)
                        · rw [if_neg c18] at H
                          have c18b0 : (t160 == 40) = false := beq_eq_false_iff_ne.mpr c18
                          have c18b1 : (t160 != 40) = true := bne_iff_ne.mpr c18
                          exact absurd (H.trans (congrArg some HPIN)) (by simp)
                      · rw [if_neg c17] at H
                        have c17b0 : ((rdOf ByteArray.empty t155 1).toList == ([98] : List UInt8)) = false := beq_eq_false_iff_ne.mpr c17
                        have c17b1 : ((rdOf ByteArray.empty t155 1).toList != ([98] : List UInt8)) = true := bne_iff_ne.mpr c17
                        exact absurd (H.trans (congrArg some HPIN)) (by simp)
                    · rw [if_neg c16] at H
                      exact absurd H (by simp)
                  · rw [if_neg c15] at H
                    have c15b0 : ((t155.length : Int) == 2) = false := beq_eq_false_iff_ne.mpr c15
                    have c15b1 : ((t155.length : Int) != 2) = true := bne_iff_ne.mpr c15
                    exact absurd (H.trans (congrArg some HPIN)) (by simp)
                · rw [if_neg c14] at H
                  have c14b0 : (t156 == 0) = false := beq_eq_false_iff_ne.mpr c14
                  have c14b1 : (t156 != 0) = true := bne_iff_ne.mpr c14
                  exact absurd (H.trans (congrArg some HPIN)) (by simp)
              · rw [if_neg c13] at H
                have c13b0 : (t174 == 9) = false := beq_eq_false_iff_ne.mpr c13
                have c13b1 : (t174 != 9) = true := bne_iff_ne.mpr c13
                exact absurd (H.trans (congrArg some HPIN)) (by simp)
            · rw [if_neg c11] at H
              have c11b0 : (t173 == 8) = false := beq_eq_false_iff_ne.mpr c11
              have c11b1 : (t173 != 8) = true := bne_iff_ne.mpr c11
              exact absurd (H.trans (congrArg some HPIN)) (by simp)
          · rw [if_neg c9] at H
            have c9b0 : (t152 == 64) = false := beq_eq_false_iff_ne.mpr c9
            have c9b1 : (t152 != 64) = true := bne_iff_ne.mpr c9
            exact absurd (H.trans (congrArg some HPIN)) (by simp)
        · rw [if_neg c8] at H
          have c8b0 : (t151 == 234) = false := beq_eq_false_iff_ne.mpr c8
          have c8b1 : (t151 != 234) = true := bne_iff_ne.mpr c8
          exact absurd (H.trans (congrArg some HPIN)) (by simp)
      · rw [if_neg c7] at H
        have c7b0 : (t150 == 202) = false := beq_eq_false_iff_ne.mpr c7
        have c7b1 : (t150 != 202) = true := bne_iff_ne.mpr c7
        exact absurd (H.trans (congrArg some HPIN)) (by simp)
    · rw [if_neg c6] at H
      have c6b0 : (t149 == 201) = false := beq_eq_false_iff_ne.mpr c6
      have c6b1 : (t149 != 201) = true := bne_iff_ne.mpr c6
      exact absurd (H.trans (congrArg some HPIN)) (by simp)
  · rw [if_neg c5] at H
    have c5b0 : (t153 == 0) = false := beq_eq_false_iff_ne.mpr c5
    have c5b1 : (t153 != 0) = true := bne_iff_ne.mpr c5
    exact absurd (H.trans (congrArg some HPIN)) (by simp)

end Go.Proofs.YtgppfalpncbmbaaDoor.PE
