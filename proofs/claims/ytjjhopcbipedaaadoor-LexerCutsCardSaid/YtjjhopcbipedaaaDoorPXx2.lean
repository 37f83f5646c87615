-- printed by wip/printx (a program of this session's, over the kit's print)
import Derived.Test.YtjjhopcbipedaaaDoorPXx0
namespace Go.Proofs.YtjjhopcbipedaaaDoor.PX
open Go.RowKit Go.Proofs.YtjjhopcbipedaaaDoorW.PrintWords Go.Proofs.YtjjhopcbipedaaaDoorW.PrintLast Go.Proofs.YtjjhopcbipedaaaDoorW.PrintMore
attribute [local go_sem] max2_int min2_int max_two min_two max_three min_three max_four min_four Go.Proofs.YtjjhopcbipedaaaDoor.PxMore.isSome_setCell   -- for this text's walks alone
set_option linter.unusedVariables false
set_option linter.unusedSimpArgs false

-- NOT PRINTED: function 36 (bytealg_IndexByteString)

/-! ### stringslite_IndexByte: function 30 -/

def stringslite_IndexByte.f (a0 : ByteArray) (a1 : Int) : Option Int := some (Lib.indexByte a0.data.toList a1.toNat.toUInt8)
set_option maxHeartbeats 1000000 in
set_option maxRecDepth 100000 in
theorem stringslite_IndexByte.calls (a0 : ByteArray) (a1 : Int) (r : Int) (w : World) (h : stringslite_IndexByte.f a0 a1 = some r) :
    Calls Tryd.prog 30 #[.string a0, .int .u8 a1] w fun e w' => e = .returned (.int .i64 r) ∧ Drawn0 w w' := by
  obtain rfl := Option.some.inj h
  go_enter Tryd.func30, Tryd.ntmps30
  go_wp2
  rw [run_callFunc_extern Tryd.func36 (by kernel_rfl) (by kernel_rfl) (by kernel_rfl) (e := Extern.BytealgIndexByte.indexByte) (by kernel_rfl), Lib.run_indexByteString]
  simp only [Result.andThen]
  rw [Oper.upon_value]
  go_wp2
  go_ret
  exact ⟨rfl, Drawn0.refl _⟩

/-! ### strings_IndexByte: function 21 -/
def strings_IndexByte.f (a0 : ByteArray) (a1 : Int) : Option (Int) := (stringslite_IndexByte.f a0 a1).bind fun t101 => (some t101)
set_option maxHeartbeats 8000000 in
set_option maxRecDepth 100000 in
theorem strings_IndexByte.calls (a0 : ByteArray) (a1 : Int) (r : Int) (w : World) (h : strings_IndexByte.f a0 a1 = some r) :
    Calls Tryd.prog 21 #[.string a0, .int .u8 a1] w fun e w' => e = .returned (.int .i64 r) ∧ Drawn0 w w' := by
  have H : ((stringslite_IndexByte.f a0 a1).bind fun t101 => (some t101)) = some r := h
  clear h
  replace H := Option.bind_eq_some_iff.mp H
  obtain ⟨t101, A30, H⟩ := H
  replace H : (some t101) = some r := H
  have A3 := Aside0.mk A30
  clear A30
  obtain rfl := Option.some.inj H
  go_enter Tryd.func21, Tryd.ntmps21
  go_wp2_with (first | ((with_reducible refine gate_callee (f := 30) rfl ?_); refine goesL_ (some 7) rfl rfl Tryd.func30 (by kernel_rfl) rfl #[.string a0, .int .u8 a1] rfl (by (try simp only [List.map_toArray, List.map_cons, List.map_nil]); first | done | rfl | (simp only [List.length_drop, List.length_take]; rfl)) ?_; (with_reducible refine (stringslite_IndexByte.calls a0 a1 t101 _ A3.out).mono ?_); rintro e w' ⟨rfl, ⟨nd, rfl⟩⟩; refine ⟨_, rfl, ?_⟩))
  go_ret
  exact ⟨by first | rfl | (simp; done) | (simp [*]; done), by repeat (first | exact Drawn0.refl _ | apply Drawn0.step)⟩

/-! ### lexer_class: function 20 -/
mutual
def lexer_class.j0 : Nat → Int → Bool → Option (Int)
  | 0, _, _ => none
  | k + 1, x0, x3 => if x3 = true then (some 1) else (if x0 = 35 then (some 2) else (if x0 ≥ 97 then (lexer_class.j1 k x0 (decide (x0 ≤ 122))) else (lexer_class.j1 k x0 false)))
def lexer_class.j1 : Nat → Int → Bool → Option (Int)
  | 0, _, _ => none
  | k + 1, x0, x21 => if x21 = true then (some 3) else (if x0 ≥ 65 then (lexer_class.j2 k x0 (decide (x0 ≤ 90))) else (lexer_class.j2 k x0 false))
def lexer_class.j2 : Nat → Int → Bool → Option (Int)
  | 0, _, _ => none
  | k + 1, x0, x28 => if x28 = true then (some 4) else (if x0 ≥ 48 then (lexer_class.j3 k x0 (decide (x0 ≤ 57))) else (lexer_class.j3 k x0 false))
def lexer_class.j3 : Nat → Int → Bool → Option (Int)
  | 0, _, _ => none
  | k + 1, x0, x35 => if x35 = true then (some 5) else (if x0 = 39 then (lexer_class.j4 k x0 true) else (lexer_class.j4 k x0 (x0 == 34)))
def lexer_class.j4 : Nat → Int → Bool → Option (Int)
  | 0, _, _ => none
  | k + 1, x0, x42 => if x42 = true then (some 6) else ((strings_IndexByte.f (⟨#[36, 61, 123, 125, 40, 41, 91, 93, 44, 58, 33, 45, 126]⟩ : ByteArray) x0).bind fun t102 => (if t102 ≥ 0 then (some 7) else (some 0)))
end
def lexer_class.f (k : Nat) (a0 : Int) : Option (Int) := if a0 = 9 then (lexer_class.j0 k a0 true) else (if a0 = 10 then (lexer_class.j0 k a0 true) else (if a0 = 13 then (lexer_class.j0 k a0 true) else (lexer_class.j0 k a0 (a0 == 32))))
theorem lexer_class.mono_l : ∀ k, (∀ y0 y1, LeO (lexer_class.j0 k y0 y1) (lexer_class.j0 (k + 1) y0 y1)) ∧ (∀ y0 y1, LeO (lexer_class.j1 k y0 y1) (lexer_class.j1 (k + 1) y0 y1)) ∧ (∀ y0 y1, LeO (lexer_class.j2 k y0 y1) (lexer_class.j2 (k + 1) y0 y1)) ∧ (∀ y0 y1, LeO (lexer_class.j3 k y0 y1) (lexer_class.j3 (k + 1) y0 y1)) ∧ (∀ y0 y1, LeO (lexer_class.j4 k y0 y1) (lexer_class.j4 (k + 1) y0 y1))
  | 0 => ⟨fun _ _ r h => by simp [lexer_class.j0] at h, fun _ _ r h => by simp [lexer_class.j1] at h, fun _ _ r h => by simp [lexer_class.j2] at h, fun _ _ r h => by simp [lexer_class.j3] at h, fun _ _ r h => by simp [lexer_class.j4] at h⟩
  | k + 1 => by
    obtain ⟨ih0, ih1, ih2, ih3, ih4⟩ := lexer_class.mono_l k
    refine ⟨?_, ?_, ?_, ?_, ?_⟩
    · intro y0 y1
      unfold lexer_class.j0
      repeat' first
      | (with_reducible exact ih0 _ _)
      | (with_reducible exact ih1 _ _)
      | (with_reducible exact ih2 _ _)
      | (with_reducible exact ih3 _ _)
      | (with_reducible exact ih4 _ _)
      | (with_reducible exact LeO.refl _)
      | (with_reducible exact LeO.none _)
      | (with_reducible refine LeO.ite ?_ ?_)
      | (with_reducible refine LeO.bind ?_ (fun _ => ?_))
      | exact ih0 _ _
      | exact ih1 _ _
      | exact ih2 _ _
      | exact ih3 _ _
      | exact ih4 _ _
      | exact LeO.none _
      | refine LeO.ite ?_ ?_
      | refine LeO.bind ?_ (fun _ => ?_)
    · intro y0 y1
      unfold lexer_class.j1
      repeat' first
      | (with_reducible exact ih0 _ _)
      | (with_reducible exact ih1 _ _)
      | (with_reducible exact ih2 _ _)
      | (with_reducible exact ih3 _ _)
      | (with_reducible exact ih4 _ _)
      | (with_reducible exact LeO.refl _)
      | (with_reducible exact LeO.none _)
      | (with_reducible refine LeO.ite ?_ ?_)
      | (with_reducible refine LeO.bind ?_ (fun _ => ?_))
      | exact ih0 _ _
      | exact ih1 _ _
      | exact ih2 _ _
      | exact ih3 _ _
      | exact ih4 _ _
      | exact LeO.none _
      | refine LeO.ite ?_ ?_
      | refine LeO.bind ?_ (fun _ => ?_)
    · intro y0 y1
      unfold lexer_class.j2
      repeat' first
      | (with_reducible exact ih0 _ _)
      | (with_reducible exact ih1 _ _)
      | (with_reducible exact ih2 _ _)
      | (with_reducible exact ih3 _ _)
      | (with_reducible exact ih4 _ _)
      | (with_reducible exact LeO.refl _)
      | (with_reducible exact LeO.none _)
      | (with_reducible refine LeO.ite ?_ ?_)
      | (with_reducible refine LeO.bind ?_ (fun _ => ?_))
      | exact ih0 _ _
      | exact ih1 _ _
      | exact ih2 _ _
      | exact ih3 _ _
      | exact ih4 _ _
      | exact LeO.none _
      | refine LeO.ite ?_ ?_
      | refine LeO.bind ?_ (fun _ => ?_)
    · intro y0 y1
      unfold lexer_class.j3
      repeat' first
      | (with_reducible exact ih0 _ _)
      | (with_reducible exact ih1 _ _)
      | (with_reducible exact ih2 _ _)
      | (with_reducible exact ih3 _ _)
      | (with_reducible exact ih4 _ _)
      | (with_reducible exact LeO.refl _)
      | (with_reducible exact LeO.none _)
      | (with_reducible refine LeO.ite ?_ ?_)
      | (with_reducible refine LeO.bind ?_ (fun _ => ?_))
      | exact ih0 _ _
      | exact ih1 _ _
      | exact ih2 _ _
      | exact ih3 _ _
      | exact ih4 _ _
      | exact LeO.none _
      | refine LeO.ite ?_ ?_
      | refine LeO.bind ?_ (fun _ => ?_)
    · intro y0 y1
      unfold lexer_class.j4
      repeat' first
      | (with_reducible exact ih0 _ _)
      | (with_reducible exact ih1 _ _)
      | (with_reducible exact ih2 _ _)
      | (with_reducible exact ih3 _ _)
      | (with_reducible exact ih4 _ _)
      | (with_reducible exact LeO.refl _)
      | (with_reducible exact LeO.none _)
      | (with_reducible refine LeO.ite ?_ ?_)
      | (with_reducible refine LeO.bind ?_ (fun _ => ?_))
      | exact ih0 _ _
      | exact ih1 _ _
      | exact ih2 _ _
      | exact ih3 _ _
      | exact ih4 _ _
      | exact LeO.none _
      | refine LeO.ite ?_ ?_
      | refine LeO.bind ?_ (fun _ => ?_)
theorem lexer_class.mono : ∀ a0 k, LeO (lexer_class.f k a0) (lexer_class.f (k + 1) a0) := by
  intro a0 k
  obtain ⟨ih0, ih1, ih2, ih3, ih4⟩ := lexer_class.mono_l k
  unfold lexer_class.f
  repeat' first
      | (with_reducible exact ih0 _ _)
      | (with_reducible exact ih1 _ _)
      | (with_reducible exact ih2 _ _)
      | (with_reducible exact ih3 _ _)
      | (with_reducible exact ih4 _ _)
      | (with_reducible exact LeO.refl _)
      | (with_reducible exact LeO.none _)
      | (with_reducible refine LeO.ite ?_ ?_)
      | (with_reducible refine LeO.bind ?_ (fun _ => ?_))
      | exact ih0 _ _
      | exact ih1 _ _
      | exact ih2 _ _
      | exact ih3 _ _
      | exact ih4 _ _
      | exact LeO.none _
      | refine LeO.ite ?_ ?_
      | refine LeO.bind ?_ (fun _ => ?_)
set_option maxHeartbeats 8000000 in
set_option maxRecDepth 100000 in
theorem lexer_class.calls (k : Nat) (a0 : Int) (r : Int) (w : World) (h : lexer_class.f k a0 = some r) :
    Calls Tryd.prog 20 #[.int .u8 a0] w fun e w' => e = .returned (.int .i64 r) ∧ Drawn0 w w' := by
  have H : (if a0 = 9 then (lexer_class.j0 k a0 true) else (if a0 = 10 then (lexer_class.j0 k a0 true) else (if a0 = 13 then (lexer_class.j0 k a0 true) else (lexer_class.j0 k a0 (a0 == 32))))) = some r := h
  clear h
  have HC2 := Aside0.mk H
  clear H
  go_enter Tryd.func20, Tryd.ntmps20
  go_upto_region 1 with (fail)
  go_cut [3] (fun v3 wc => ∃ (kq : Nat) (x3_1 : Bool), v3 = .bool x3_1 ∧ Aside0 (lexer_class.j0 kq a0 x3_1 = some r) ∧ Aside0 (kq ≤ k) ∧ Drawn0 w wc)
  case first =>
    have H := HC2.out
    clear HC2
    by_cases c3 : a0 = 9
    · rw [if_pos c3] at H
      have c3b0 : (a0 == 9) = true := beq_iff_eq.mpr c3
      have c3b1 : (a0 != 9) = false := bne_eq_false_iff_eq.mpr c3
      clear c3
      (first | rw [c3b0] | (simp only [i64_w, i32_w]; rw [c3b0]) | skip)
      have H' := Aside0.mk H
      clear H
      go_wp2
      go_meet
      case rel => exact ⟨_, (true), (by first | rfl | (simp; done) | (simp [*]; done)), H', ⟨by first | omega | exact Nat.le_refl _⟩, by repeat (first | exact Drawn0.refl _ | apply Drawn0.step)⟩
    · rw [if_neg c3] at H
      have c3b0 : (a0 == 9) = false := beq_eq_false_iff_ne.mpr c3
      have c3b1 : (a0 != 9) = true := bne_iff_ne.mpr c3
      (first | rw [c3b0] | (simp only [i64_w, i32_w]; rw [c3b0]) | skip)
      by_cases c4 : a0 = 10
      · rw [if_pos c4] at H
        have c4b0 : (a0 == 10) = true := beq_iff_eq.mpr c4
        have c4b1 : (a0 != 10) = false := bne_eq_false_iff_eq.mpr c4
        clear c4
        have H' := Aside0.mk H
        clear H
        go_wp2
        go_meet
        case rel => exact ⟨_, (true), (by first | rfl | (simp; done) | (simp [*]; done)), H', ⟨by first | omega | exact Nat.le_refl _⟩, by repeat (first | exact Drawn0.refl _ | apply Drawn0.step)⟩
      · rw [if_neg c4] at H
        have c4b0 : (a0 == 10) = false := beq_eq_false_iff_ne.mpr c4
        have c4b1 : (a0 != 10) = true := bne_iff_ne.mpr c4
        by_cases c5 : a0 = 13
        · rw [if_pos c5] at H
          have c5b0 : (a0 == 13) = true := beq_iff_eq.mpr c5
          have c5b1 : (a0 != 13) = false := bne_eq_false_iff_eq.mpr c5
          clear c5
          have H' := Aside0.mk H
          clear H
          go_wp2
          go_meet
          case rel => exact ⟨_, (true), (by first | rfl | (simp; done) | (simp [*]; done)), H', ⟨by first | omega | exact Nat.le_refl _⟩, by repeat (first | exact Drawn0.refl _ | apply Drawn0.step)⟩
        · rw [if_neg c5] at H
          have c5b0 : (a0 == 13) = false := beq_eq_false_iff_ne.mpr c5
          have c5b1 : (a0 != 13) = true := bne_iff_ne.mpr c5
          have H' := Aside0.mk H
          clear H
          go_wp2
          go_meet
          case rel => exact ⟨_, ((a0 == 32)), (by first | rfl | (simp; done) | (simp [*]; done)), H', ⟨by first | omega | exact Nat.le_refl _⟩, by repeat (first | exact Drawn0.refl _ | apply Drawn0.step)⟩
  case rest =>
    clear HC2
    try clear c2
    try clear p2
    try clear c3
    try clear c3b0
    try clear c3b1
    try clear c4
    try clear c4b0
    try clear c4b1
    try clear c5
    try clear c5b0
    try clear c5b1
    obtain ⟨kq, x3_1, rfl, HA, HJ1, ⟨mc1, rfl⟩⟩ := hcut
    cases kq with
    | zero => exact absurd HA.out (by simp [lexer_class.j0])
    | succ kj1 =>
      have H := HA.out
      clear HA
      simp only [lexer_class.j0] at H
      by_cases c6 : x3_1 = true
      · subst c6
        have H1 : (some 1) = some r := by rw [if_pos rfl] at H; exact H
        clear H
        have H := H1
        clear H1
        obtain rfl := Option.some.inj H
        go_wp2
        go_ret
        exact ⟨by first | rfl | (simp; done) | (simp [*]; done), by repeat (first | exact Drawn0.refl _ | apply Drawn0.step)⟩
      · replace c6 := Bool.eq_false_iff.mpr c6
        subst c6
        have H1 : (if a0 = 35 then (some 2) else (if a0 ≥ 97 then (lexer_class.j1 kj1 a0 (decide (a0 ≤ 122))) else (lexer_class.j1 kj1 a0 false))) = some r := by rw [if_neg (show ¬ (false = true) by decide)] at H; exact H
        clear H
        have H := H1
        clear H1
        by_cases c7 : a0 = 35
        · rw [if_pos c7] at H
          have c7b0 : (a0 == 35) = true := beq_iff_eq.mpr c7
          have c7b1 : (a0 != 35) = false := bne_eq_false_iff_eq.mpr c7
          clear c7
          obtain rfl := Option.some.inj H
          go_wp2
          go_ret
          exact ⟨by first | rfl | (simp; done) | (simp [*]; done), by repeat (first | exact Drawn0.refl _ | apply Drawn0.step)⟩
        · rw [if_neg c7] at H
          have c7b0 : (a0 == 35) = false := beq_eq_false_iff_ne.mpr c7
          have c7b1 : (a0 != 35) = true := bne_iff_ne.mpr c7
          have HC8 := Aside0.mk H
          clear H
          go_upto_region 5 with (fail)
          go_cut [21] (fun v21 wc => ∃ (kq : Nat) (x21_7 : Bool), v21 = .bool x21_7 ∧ Aside0 (lexer_class.j1 kq a0 x21_7 = some r) ∧ Aside0 (kq ≤ kj1) ∧ Drawn0 w wc)
          case first =>
            have H := HC8.out
            clear HC8
            by_cases c9 : a0 ≥ 97
            · rw [if_pos c9] at H
              have c9b0 : decide (97 ≤ a0) = true := decide_eq_true c9
              clear c9
              (first | rw [c9b0] | (simp only [i64_w, i32_w]; rw [c9b0]) | skip)
              have H' := Aside0.mk H
              clear H
              go_wp2
              go_meet
              case rel => exact ⟨_, (decide (a0 ≤ 122)), (by first | rfl | (simp; done) | (simp [*]; done)), H', ⟨by have := HJ1.out; first | omega | exact Nat.le_refl _⟩, by repeat (first | exact Drawn0.refl _ | apply Drawn0.step)⟩
            · rw [if_neg c9] at H
              have c9b0 : decide (97 ≤ a0) = false := decide_eq_false c9
              clear c9
              (first | rw [c9b0] | (simp only [i64_w, i32_w]; rw [c9b0]) | skip)
              have H' := Aside0.mk H
              clear H
              go_wp2
              go_meet
              case rel => exact ⟨_, (false), (by first | rfl | (simp; done) | (simp [*]; done)), H', ⟨by have := HJ1.out; first | omega | exact Nat.le_refl _⟩, by repeat (first | exact Drawn0.refl _ | apply Drawn0.step)⟩
          case rest =>
            clear HC8
            try clear c1
            try clear c2
            try clear p2
            try clear c3
            try clear c3b0
            try clear c3b1
            try clear c4
            try clear c4b0
            try clear c4b1
            try clear c5
            try clear c5b0
            try clear c5b1
            try clear c6
            try clear c7
            try clear c7b0
            try clear c7b1
            try clear c9
            try clear c9b0
            try clear p2
            obtain ⟨kq, x21_7, rfl, HA, HJ7, ⟨mc7, rfl⟩⟩ := hcut
            cases kq with
            | zero => exact absurd HA.out (by simp [lexer_class.j1])
            | succ kj7 =>
              have H := HA.out
              clear HA
              simp only [lexer_class.j1] at H
              by_cases c10 : x21_7 = true
              · subst c10
                have H1 : (some 3) = some r := by rw [if_pos rfl] at H; exact H
                clear H
                have H := H1
                clear H1
                obtain rfl := Option.some.inj H
                go_wp2
                go_ret
                exact ⟨by first | rfl | (simp; done) | (simp [*]; done), by repeat (first | exact Drawn0.refl _ | apply Drawn0.step)⟩
              · replace c10 := Bool.eq_false_iff.mpr c10
                subst c10
                have H1 : (if a0 ≥ 65 then (lexer_class.j2 kj7 a0 (decide (a0 ≤ 90))) else (lexer_class.j2 kj7 a0 false)) = some r := by rw [if_neg (show ¬ (false = true) by decide)] at H; exact H
                clear H
                have H := H1
                clear H1
                have HC11 := Aside0.mk H
                clear H
                go_upto_region 7 with (fail)
                go_cut [28] (fun v28 wc => ∃ (kq : Nat) (x28_10 : Bool), v28 = .bool x28_10 ∧ Aside0 (lexer_class.j2 kq a0 x28_10 = some r) ∧ Aside0 (kq ≤ kj7) ∧ Drawn0 w wc)
                case first =>
                  have H := HC11.out
                  clear HC11
                  by_cases c12 : a0 ≥ 65
                  · rw [if_pos c12] at H
                    have c12b0 : decide (65 ≤ a0) = true := decide_eq_true c12
                    clear c12
                    (first | rw [c12b0] | (simp only [i64_w, i32_w]; rw [c12b0]) | skip)
                    have H' := Aside0.mk H
                    clear H
                    go_wp2
                    go_meet
                    case rel => exact ⟨_, (decide (a0 ≤ 90)), (by first | rfl | (simp; done) | (simp [*]; done)), H', ⟨by have := HJ1.out; have := HJ7.out; first | omega | exact Nat.le_refl _⟩, by repeat (first | exact Drawn0.refl _ | apply Drawn0.step)⟩
                  · rw [if_neg c12] at H
                    have c12b0 : decide (65 ≤ a0) = false := decide_eq_false c12
                    clear c12
                    (first | rw [c12b0] | (simp only [i64_w, i32_w]; rw [c12b0]) | skip)
                    have H' := Aside0.mk H
                    clear H
                    go_wp2
                    go_meet
                    case rel => exact ⟨_, (false), (by first | rfl | (simp; done) | (simp [*]; done)), H', ⟨by have := HJ1.out; have := HJ7.out; first | omega | exact Nat.le_refl _⟩, by repeat (first | exact Drawn0.refl _ | apply Drawn0.step)⟩
                case rest =>
                  clear HC11
                  try clear c1
                  try clear c2
                  try clear p2
                  try clear c3
                  try clear c3b0
                  try clear c3b1
                  try clear c4
                  try clear c4b0
                  try clear c4b1
                  try clear c5
                  try clear c5b0
                  try clear c5b1
                  try clear c6
                  try clear c7
                  try clear c7b0
                  try clear c7b1
                  try clear c9
                  try clear c9b0
                  try clear c10
                  try clear c12
                  try clear c12b0
                  try clear p2
                  obtain ⟨kq, x28_10, rfl, HA, HJ10, ⟨mc10, rfl⟩⟩ := hcut
                  cases kq with
                  | zero => exact absurd HA.out (by simp [lexer_class.j2])
                  | succ kj10 =>
                    have H := HA.out
                    clear HA
                    simp only [lexer_class.j2] at H
                    by_cases c13 : x28_10 = true
                    · subst c13
                      have H1 : (some 4) = some r := by rw [if_pos rfl] at H; exact H
                      clear H
                      have H := H1
                      clear H1
                      obtain rfl := Option.some.inj H
                      go_wp2
                      go_ret
                      exact ⟨by first | rfl | (simp; done) | (simp [*]; done), by repeat (first | exact Drawn0.refl _ | apply Drawn0.step)⟩
                    · replace c13 := Bool.eq_false_iff.mpr c13
                      subst c13
                      have H1 : (if a0 ≥ 48 then (lexer_class.j3 kj10 a0 (decide (a0 ≤ 57))) else (lexer_class.j3 kj10 a0 false)) = some r := by rw [if_neg (show ¬ (false = true) by decide)] at H; exact H
                      clear H
                      have H := H1
                      clear H1
                      have HC14 := Aside0.mk H
                      clear H
                      go_upto_region 9 with (fail)
                      go_cut [35] (fun v35 wc => ∃ (kq : Nat) (x35_13 : Bool), v35 = .bool x35_13 ∧ Aside0 (lexer_class.j3 kq a0 x35_13 = some r) ∧ Aside0 (kq ≤ kj10) ∧ Drawn0 w wc)
                      case first =>
                        have H := HC14.out
                        clear HC14
                        by_cases c15 : a0 ≥ 48
                        · rw [if_pos c15] at H
                          have c15b0 : decide (48 ≤ a0) = true := decide_eq_true c15
                          clear c15
                          (first | rw [c15b0] | (simp only [i64_w, i32_w]; rw [c15b0]) | skip)
                          have H' := Aside0.mk H
                          clear H
                          go_wp2
                          go_meet
                          case rel => exact ⟨_, (decide (a0 ≤ 57)), (by first | rfl | (simp; done) | (simp [*]; done)), H', ⟨by have := HJ1.out; have := HJ7.out; have := HJ10.out; first | omega | exact Nat.le_refl _⟩, by repeat (first | exact Drawn0.refl _ | apply Drawn0.step)⟩
                        · rw [if_neg c15] at H
                          have c15b0 : decide (48 ≤ a0) = false := decide_eq_false c15
                          clear c15
                          (first | rw [c15b0] | (simp only [i64_w, i32_w]; rw [c15b0]) | skip)
                          have H' := Aside0.mk H
                          clear H
                          go_wp2
                          go_meet
                          case rel => exact ⟨_, (false), (by first | rfl | (simp; done) | (simp [*]; done)), H', ⟨by have := HJ1.out; have := HJ7.out; have := HJ10.out; first | omega | exact Nat.le_refl _⟩, by repeat (first | exact Drawn0.refl _ | apply Drawn0.step)⟩
                      case rest =>
                        clear HC14
                        try clear c1
                        try clear c2
                        try clear p2
                        try clear c3
                        try clear c3b0
                        try clear c3b1
                        try clear c4
                        try clear c4b0
                        try clear c4b1
                        try clear c5
                        try clear c5b0
                        try clear c5b1
                        try clear c6
                        try clear c7
                        try clear c7b0
                        try clear c7b1
                        try clear c9
                        try clear c9b0
                        try clear c10
                        try clear c12
                        try clear c12b0
                        try clear c13
                        try clear c15
                        try clear c15b0
                        try clear p2
                        obtain ⟨kq, x35_13, rfl, HA, HJ13, ⟨mc13, rfl⟩⟩ := hcut
                        cases kq with
                        | zero => exact absurd HA.out (by simp [lexer_class.j3])
                        | succ kj13 =>
                          have H := HA.out
                          clear HA
                          simp only [lexer_class.j3] at H
                          by_cases c16 : x35_13 = true
                          · subst c16
                            have H1 : (some 5) = some r := by rw [if_pos rfl] at H; exact H
                            clear H
                            have H := H1
                            clear H1
                            obtain rfl := Option.some.inj H
                            go_wp2
                            go_ret
                            exact ⟨by first | rfl | (simp; done) | (simp [*]; done), by repeat (first | exact Drawn0.refl _ | apply Drawn0.step)⟩
                          · replace c16 := Bool.eq_false_iff.mpr c16
                            subst c16
                            have H1 : (if a0 = 39 then (lexer_class.j4 kj13 a0 true) else (lexer_class.j4 kj13 a0 (a0 == 34))) = some r := by rw [if_neg (show ¬ (false = true) by decide)] at H; exact H
                            clear H
                            have H := H1
                            clear H1
                            have HC17 := Aside0.mk H
                            clear H
                            go_upto_region 11 with (fail)
                            go_cut [42] (fun v42 wc => ∃ (kq : Nat) (x42_16 : Bool), v42 = .bool x42_16 ∧ Aside0 (lexer_class.j4 kq a0 x42_16 = some r) ∧ Aside0 (kq ≤ kj13) ∧ Drawn0 w wc)
                            case first =>
                              have H := HC17.out
                              clear HC17
                              by_cases c18 : a0 = 39
                              · rw [if_pos c18] at H
                                have c18b0 : (a0 == 39) = true := beq_iff_eq.mpr c18
                                have c18b1 : (a0 != 39) = false := bne_eq_false_iff_eq.mpr c18
                                clear c18
                                (first | rw [c18b0] | (simp only [i64_w, i32_w]; rw [c18b0]) | skip)
                                have H' := Aside0.mk H
                                clear H
                                go_wp2
                                go_meet
                                case rel => exact ⟨_, (true), (by first | rfl | (simp; done) | (simp [*]; done)), H', ⟨by have := HJ1.out; have := HJ7.out; have := HJ10.out; have := HJ13.out; first | omega | exact Nat.le_refl _⟩, by repeat (first | exact Drawn0.refl _ | apply Drawn0.step)⟩
                              · rw [if_neg c18] at H
                                have c18b0 : (a0 == 39) = false := beq_eq_false_iff_ne.mpr c18
                                have c18b1 : (a0 != 39) = true := bne_iff_ne.mpr c18
                                (first | rw [c18b0] | (simp only [i64_w, i32_w]; rw [c18b0]) | skip)
                                have H' := Aside0.mk H
                                clear H
                                go_wp2
                                go_meet
                                case rel => exact ⟨_, ((a0 == 34)), (by first | rfl | (simp; done) | (simp [*]; done)), H', ⟨by have := HJ1.out; have := HJ7.out; have := HJ10.out; have := HJ13.out; first | omega | exact Nat.le_refl _⟩, by repeat (first | exact Drawn0.refl _ | apply Drawn0.step)⟩
                            case rest =>
                              clear HC17
                              try clear c1
                              try clear c2
                              try clear p2
                              try clear c3
                              try clear c3b0
                              try clear c3b1
                              try clear c4
                              try clear c4b0
                              try clear c4b1
                              try clear c5
                              try clear c5b0
                              try clear c5b1
                              try clear c6
                              try clear c7
                              try clear c7b0
                              try clear c7b1
                              try clear c9
                              try clear c9b0
                              try clear c10
                              try clear c12
                              try clear c12b0
                              try clear c13
                              try clear c15
                              try clear c15b0
                              try clear c16
                              try clear c18
                              try clear c18b0
                              try clear c18b1
                              try clear p2
                              obtain ⟨kq, x42_16, rfl, HA, HJ16, ⟨mc16, rfl⟩⟩ := hcut
                              cases kq with
                              | zero => exact absurd HA.out (by simp [lexer_class.j4])
                              | succ kj16 =>
                                have H := HA.out
                                clear HA
                                simp only [lexer_class.j4] at H
                                by_cases c19 : x42_16 = true
                                · subst c19
                                  have H1 : (some 6) = some r := by rw [if_pos rfl] at H; exact H
                                  clear H
                                  have H := H1
                                  clear H1
                                  obtain rfl := Option.some.inj H
                                  go_wp2
                                  go_ret
                                  exact ⟨by first | rfl | (simp; done) | (simp [*]; done), by repeat (first | exact Drawn0.refl _ | apply Drawn0.step)⟩
                                · replace c19 := Bool.eq_false_iff.mpr c19
                                  subst c19
                                  have H1 : ((strings_IndexByte.f (⟨#[36, 61, 123, 125, 40, 41, 91, 93, 44, 58, 33, 45, 126]⟩ : ByteArray) a0).bind fun t102 => (if t102 ≥ 0 then (some 7) else (some 0))) = some r := by rw [if_neg (show ¬ (false = true) by decide)] at H; exact H
                                  clear H
                                  have H := H1
                                  clear H1
                                  replace H := Option.bind_eq_some_iff.mp H
                                  obtain ⟨t102, A200, H⟩ := H
                                  replace H : (if t102 ≥ 0 then (some 7) else (some 0)) = some r := H
                                  have A20 := Aside0.mk A200
                                  clear A200
                                  by_cases c21 : t102 ≥ 0
                                  · rw [if_pos c21] at H
                                    have c21b0 : decide (0 ≤ t102) = true := decide_eq_true c21
                                    clear c21
                                    obtain rfl := Option.some.inj H
                                    go_wp2_with (first | ((with_reducible refine gate_callee (f := 21) rfl ?_); refine goesL_ (some 51) rfl rfl Tryd.func21 (by kernel_rfl) rfl #[.string (⟨#[36, 61, 123, 125, 40, 41, 91, 93, 44, 58, 33, 45, 126]⟩ : ByteArray), .int .u8 a0] rfl (by (try simp only [List.map_toArray, List.map_cons, List.map_nil]); first | done | rfl | (simp only [List.length_drop, List.length_take]; rfl)) ?_; (with_reducible refine (strings_IndexByte.calls (⟨#[36, 61, 123, 125, 40, 41, 91, 93, 44, 58, 33, 45, 126]⟩ : ByteArray) a0 t102 _ A20.out).mono ?_); rintro e w' ⟨rfl, ⟨nd, rfl⟩⟩; refine ⟨_, rfl, ?_⟩))
                                    go_ret
                                    exact ⟨by first | rfl | (simp; done) | (simp [*]; done), by repeat (first | exact Drawn0.refl _ | apply Drawn0.step)⟩
                                  · rw [if_neg c21] at H
                                    have c21b0 : decide (0 ≤ t102) = false := decide_eq_false c21
                                    clear c21
                                    obtain rfl := Option.some.inj H
                                    go_wp2_with (first | ((with_reducible refine gate_callee (f := 21) rfl ?_); refine goesL_ (some 51) rfl rfl Tryd.func21 (by kernel_rfl) rfl #[.string (⟨#[36, 61, 123, 125, 40, 41, 91, 93, 44, 58, 33, 45, 126]⟩ : ByteArray), .int .u8 a0] rfl (by (try simp only [List.map_toArray, List.map_cons, List.map_nil]); first | done | rfl | (simp only [List.length_drop, List.length_take]; rfl)) ?_; (with_reducible refine (strings_IndexByte.calls (⟨#[36, 61, 123, 125, 40, 41, 91, 93, 44, 58, 33, 45, 126]⟩ : ByteArray) a0 t102 _ A20.out).mono ?_); rintro e w' ⟨rfl, ⟨nd, rfl⟩⟩; refine ⟨_, rfl, ?_⟩))
                                    go_ret
                                    exact ⟨by first | rfl | (simp; done) | (simp [*]; done), by repeat (first | exact Drawn0.refl _ | apply Drawn0.step)⟩

/-! ### lexer_run: function 27 -/

def cls (c : Int) : Int := if c = 9 ∨ c = 10 ∨ c = 13 ∨ c = 32 then 1 else if c = 35 then 2 else if 97 ≤ c ∧ c ≤ 122 then 3 else if 65 ≤ c ∧ c ≤ 90 then 4 else if 48 ≤ c ∧ c ≤ 57 then 5 else if c = 39 ∨ c = 34 then 6 else if c ∈ ([36, 61, 123, 125, 40, 41, 91, 93, 44, 58, 33, 45, 126] : List Int) then 7 else 0
theorem class_all : ∀ n : Fin 256, lexer_class.f 10 (n.val : Int) = some (cls (n.val : Int)) := by decide +kernel
theorem class_is (c : Int) (h0 : 0 ≤ c) (h1 : c ≤ 255) : lexer_class.f 10 c = some (cls c) := by
  have h := class_all ⟨c.toNat, by omega⟩
  simp only [Int.toNat_of_nonneg h0] at h
  exact h
open Lex (isTail)
def runLen (s : ByteArray) : Nat := Lex.runL s.data.toList
def lexer_run.f (a0 : ByteArray) : Option Int := some (runLen a0)
theorem tail_lt {b : UInt8} (h : isTail b = true) : b.toNat < 128 := by
  simp [isTail, UInt8.le_iff_toNat_le] at h
  rcases h with (h | h) | h
  · subst h; decide
  · omega
  · omega
theorem run_here (s : ByteArray) (i : Nat) (hi : i < s.size) (hp : ∀ j, (hj : j < i) → isTail (s[j]'(by omega)) = true) (h : isTail s[i] = false) : runLen s = i := by
  unfold runLen Lex.runL
  have e : s.data.toList = s.data.toList.take i ++ s[i] :: s.data.toList.drop (i + 1) := by
    have := List.take_append_drop i s.data.toList
    rw [List.drop_eq_getElem_cons (by simpa using hi)] at this
    exact this.symm
  rw [e, List.takeWhile_append_of_pos, List.takeWhile_cons, h]
  · simp; omega
  · intro b hb
    obtain ⟨j, hj, rfl⟩ := List.mem_iff_getElem.1 hb
    simp only [List.getElem_take]
    simp only [List.length_take] at hj
    exact hp j (by omega)
theorem run_end (s : ByteArray) (hp : ∀ j, (hj : j < s.size) → isTail (s[j]'hj) = true) : runLen s = s.size := by
  unfold runLen Lex.runL
  have e : ∀ l : List UInt8, (∀ b ∈ l, isTail b = true) → l.takeWhile isTail = l := by
    intro l
    induction l with
    | nil => intro _; rfl
    | cons b l ih =>
      intro hl
      rw [List.takeWhile_cons, hl b (by simp), if_pos rfl, ih (fun x hx => hl x (by simp [hx]))]
  rw [e]
  · simp
  · intro b hb
    obtain ⟨j, hj, rfl⟩ := List.mem_iff_getElem.1 hb
    exact hp j (by simpa using hj)
theorem drewN_iter (w : World) (s : ByteArray) (n m p : Nat) : ((w.drewN n).iter s p).drewN m = (w.drewN (n + m)).iter s p := by
  rw [← World.drewN_drewN]
  rfl
theorem tail_cases {b : UInt8} (h : isTail b = true) : b.toNat = 95 ∨ (b.toNat ≠ 95 ∧ cls (b.toNat : Int) = 3) ∨ (b.toNat ≠ 95 ∧ cls (b.toNat : Int) = 5) := by
  simp [isTail, UInt8.le_iff_toNat_le] at h
  rcases h with (h | h) | h
  · subst h; exact .inl rfl
  · refine .inr (.inl ⟨by omega, ?_⟩)
    unfold cls
    rw [if_neg (by omega), if_neg (by omega), if_pos (by omega)]
  · refine .inr (.inr ⟨by omega, ?_⟩)
    unfold cls
    rw [if_neg (by omega), if_neg (by omega), if_neg (by omega), if_neg (by omega), if_pos (by omega)]
theorem tail_not {b : UInt8} (h : isTail b = false) : b.toNat ≠ 95 ∧ cls (b.toNat : Int) ≠ 3 ∧ cls (b.toNat : Int) ≠ 5 := by
  have h1 : ¬ (b.toNat = 95 ∨ (97 ≤ b.toNat ∧ b.toNat ≤ 122) ∨ (48 ≤ b.toNat ∧ b.toNat ≤ 57)) := by
    intro hc
    have : isTail b = true := by
      simp [isTail, UInt8.le_iff_toNat_le]
      rcases hc with hc | hc | hc
      · exact .inl (.inl (UInt8.toNat_inj.1 (by simpa using hc)))
      · exact .inl (.inr hc)
      · exact .inr hc
    rw [h] at this
    cases this
  refine ⟨by omega, ?_, ?_⟩ <;> unfold cls <;> repeat' split <;> omega
set_option maxHeartbeats 4000000 in
set_option maxRecDepth 100000 in
theorem lexer_run.calls (a0 : ByteArray) (r : Int) (w : World) (h : lexer_run.f a0 = some r) :
    Calls Tryd.prog 27 #[.string a0] w fun e w' => e = .returned (.int .i64 r) ∧ Below w.heap.size w w' := by
  obtain rfl := Option.some.inj h
  clear h
  go_enter Tryd.func27, Tryd.ntmps27
  go_wp2_with fail
  go_loopw [3] (fun _ wr => ∃ (pos n : Nat), pos ≤ a0.size ∧ Aside0 (∀ j, (hj : j < pos) → ∀ hj2 : j < a0.size, isTail (a0[j]'hj2) = true) ∧ wr = (w.drewN n).iter a0 pos) (fun _ wr => a0.size - wr.iterPos w.heap.size)
  case atStart => exact ⟨0, 0, Nat.zero_le _, Aside0.mk (fun j hj => absurd hj (Nat.not_lt_zero _)), rfl⟩
  case round =>
    obtain ⟨pos, n, hle, HT, rfl⟩ := hrel
    have HB : Aside0 (∀ m p, Below w.heap.size w ((w.drewN m).iter a0 p)) := ⟨fun m p => (pw_below_drewN (Below.refl _ w) m).alloc (Nat.le_refl _) _⟩
    by_cases hp : pos < a0.size
    · have hnx : ∀ ty, (Instr.next (.pointer (some ⟨w.heap.size, 0, none⟩)) true ty).run Tryd.prog ((w.drewN n).iter a0 pos) = .ok (.tuple #[.bool true, .int .i64 pos, .int .i32 (Utf8.decode a0 pos).1]) ((w.drewN n).iter a0 (pos + (Utf8.decode a0 pos).2)) := fun ty => run_next_any (w.drewN n) a0 pos ty hp
      obtain ⟨b, hb⟩ : ∃ b, b = a0[pos] := ⟨_, rfl⟩
      have hb255 := b.toNat_lt
      by_cases hh : b.toNat < 128
      · have hdec := decode_ascii a0 pos hp (by rw [← hb]; exact hh)
        rw [← hb] at hdec
        rw [hdec] at hnx
        simp only at hnx
        have h128 : ((b.toNat : Int) ≥ 128) = False := by simp; omega
        have h128b : decide ((128 : Int) ≤ (b.toNat : Int)) = false := decide_eq_false (by omega)
        have hwr : IntKind.u8.wrap (b.toNat : Int) = (b.toNat : Int) := IntWalk.u8_in _ (by omega)
        have hcl := class_is (b.toNat : Int) (by omega) (by omega)
        have HCL := Aside0.mk hcl
        clear hcl hdec h128
        cases ht : isTail b with
        | true =>
          have HT2 : Aside0 (∀ j, (hj : j < pos + 1) → ∀ hj2 : j < a0.size, isTail (a0[j]'hj2) = true) := ⟨fun j hj hj2 => by
            by_cases e : j = pos
            · subst e; rw [← hb]; exact ht
            · exact HT.out j (by omega) hj2⟩
          rcases tail_cases ht with hc | ⟨hne, hc⟩ | ⟨hne, hc⟩
          · rw [hc] at hnx HCL h128b hwr
            clear hb ht
            go_wp2_with fail
            go_roundw
            case rel => exact ⟨pos + 1, n, by omega, HT2, rfl⟩
            case measure =>
              have e1 : ((w.drewN n).iter a0 (pos + 1)).iterPos w.heap.size = pos + 1 := World.iterPos_iter (w.drewN n) a0 (pos + 1)
              have e2 : ((w.drewN n).iter a0 pos).iterPos w.heap.size = pos := World.iterPos_iter (w.drewN n) a0 pos
              rw [e1, e2]
              omega
          · rw [hc] at HCL
            have h95 : ((b.toNat : Int) == 95) = false := beq_eq_false_iff_ne.2 (by omega)
            have h95b : ((b.toNat : Int) != 95) = true := bne_iff_ne.2 (by omega)
            clear hb ht hc
            go_wp2_with (go_at_call 20; refine (lexer_class.calls 10 (b.toNat : Int) _ _ HCL.out).mono ?_; rintro e w' ⟨rfl, ⟨nd, rfl⟩⟩)
            go_roundw
            case rel => exact ⟨pos + 1, n + nd, by omega, HT2, drewN_iter _ _ _ _ _⟩
            case measure =>
              have e1 : (((w.drewN n).iter a0 (pos + 1)).drewN nd).iterPos w.heap.size = pos + 1 := World.iterPos_iter ((w.drewN n).drewN nd) a0 (pos + 1)
              have e2 : ((w.drewN n).iter a0 pos).iterPos w.heap.size = pos := World.iterPos_iter (w.drewN n) a0 pos
              rw [e1, e2]
              omega
          · rw [hc] at HCL
            have h95 : ((b.toNat : Int) == 95) = false := beq_eq_false_iff_ne.2 (by omega)
            have h95b : ((b.toNat : Int) != 95) = true := bne_iff_ne.2 (by omega)
            clear hb ht hc
            go_wp2_with (go_at_call 20; refine (lexer_class.calls 10 (b.toNat : Int) _ _ HCL.out).mono ?_; rintro e w' ⟨rfl, ⟨nd, rfl⟩⟩)
            go_roundw
            case rel => exact ⟨pos + 1, _, by omega, HT2, drewN_iter _ _ _ _ _⟩
            case measure =>
              have e1 : ∀ m, (((w.drewN n).iter a0 (pos + 1)).drewN m).iterPos w.heap.size = pos + 1 := fun m => by rw [drewN_iter]; exact World.iterPos_iter (w.drewN (n + m)) a0 (pos + 1)
              have e2 : ((w.drewN n).iter a0 pos).iterPos w.heap.size = pos := World.iterPos_iter (w.drewN n) a0 pos
              rw [e1, e2]
              omega
        | false =>
          obtain ⟨hne, hc3, hc5⟩ := tail_not ht
          have h95 : ((b.toNat : Int) == 95) = false := beq_eq_false_iff_ne.2 (by omega)
          have h95b : ((b.toNat : Int) != 95) = true := bne_iff_ne.2 (by omega)
          have c3 : (cls (b.toNat : Int) == 3) = false := beq_eq_false_iff_ne.2 hc3
          have c3b : (cls (b.toNat : Int) != 3) = true := bne_iff_ne.2 hc3
          have c5 : (cls (b.toNat : Int) == 5) = false := beq_eq_false_iff_ne.2 hc5
          have c5b : (cls (b.toNat : Int) != 5) = true := bne_iff_ne.2 hc5
          have HR : Aside0 (runLen a0 = pos) := ⟨run_here a0 pos hp (fun j hj => HT.out j hj (by omega)) (by rw [← hb]; exact ht)⟩
          clear hb ht hc3 hc5
          go_wp2_with (go_at_call 20; refine (lexer_class.calls 10 (b.toNat : Int) _ _ HCL.out).mono ?_; rintro e w' ⟨rfl, ⟨nd, rfl⟩⟩)
          go_ret
          exact ⟨by rw [HR.out]; rfl, (HB.out n (pos + 1)).trans (pw_below_drewN (Below.refl _ _) _)⟩
      · obtain ⟨hd1, hd2⟩ := decode_high a0 pos hp (by rw [← hb]; omega)
        obtain ⟨c, hc⟩ : ∃ c, c = (Utf8.decode a0 pos).1 := ⟨_, rfl⟩
        obtain ⟨k, hk⟩ : ∃ k, k = (Utf8.decode a0 pos).2 := ⟨_, rfl⟩
        rw [← hc, ← hk] at hnx
        rw [← hc] at hd1
        have h128b : decide ((128 : Int) ≤ (c : Int)) = true := decide_eq_true (by omega)
        have HR : Aside0 (runLen a0 = pos) := ⟨run_here a0 pos hp (fun j hj => HT.out j hj (by omega)) (by
          cases h : isTail a0[pos] with
          | false => rfl
          | true =>
            have := tail_lt h
            rw [← hb] at this
            omega)⟩
        clear hb hc hk hd2
        go_wp2_with fail
        go_ret
        exact ⟨by rw [HR.out]; rfl, HB.out n (pos + k)⟩
    · have hnx : ∀ ty, (Instr.next (.pointer (some ⟨w.heap.size, 0, none⟩)) true ty).run Tryd.prog ((w.drewN n).iter a0 pos) = .ok (.tuple #[.bool false]) ((w.drewN n).iter a0 pos) := fun ty => run_next_end (w.drewN n) a0 pos ty hp
      have HR : Aside0 (runLen a0 = a0.size) := ⟨run_end a0 (fun j hj => HT.out j (by omega) hj)⟩
      go_wp2_with fail
      go_ret
      exact ⟨by rw [HR.out]; rfl, HB.out n pos⟩

/-! ### lexer_part: function 31 -/
def lexer_part.f (k : Nat) (a0 : ByteArray) : Option (Int) := if a0.toList = ([] : List UInt8) then (some 0) else (if 0 < (a0.size : Int) then ((lexer_class.f k (bt a0 0)).bind fun t103 => (if t103 = 3 then ((lexer_run.f a0).bind fun t104 => (some t104)) else (some 0))) else (none))
theorem lexer_part.mono : ∀ a0 k, LeO (lexer_part.f k a0) (lexer_part.f (k + 1) a0) := by
  intro a0 k
  unfold lexer_part.f
  repeat' first
      | (with_reducible exact lexer_class.mono _ _)
      | (with_reducible exact LeO.refl _)
      | (with_reducible exact LeO.none _)
      | (with_reducible refine LeO.ite ?_ ?_)
      | (with_reducible refine LeO.bind ?_ (fun _ => ?_))
      | exact lexer_class.mono _ _
      | exact LeO.none _
      | refine LeO.ite ?_ ?_
      | refine LeO.bind ?_ (fun _ => ?_)
set_option maxHeartbeats 8000000 in
set_option maxRecDepth 100000 in
theorem lexer_part.calls (k : Nat) (a0 : ByteArray) (r : Int) (w : World) (h : lexer_part.f k a0 = some r) :
    Calls Tryd.prog 31 #[.string a0] w fun e w' => e = .returned (.int .i64 r) ∧ Below w.heap.size w w' := by
  have HB := Aside0.mk (Below.refl w.heap.size w)
  have H : (if a0.toList = ([] : List UInt8) then (some 0) else (if 0 < (a0.size : Int) then ((lexer_class.f k (bt a0 0)).bind fun t103 => (if t103 = 3 then ((lexer_run.f a0).bind fun t104 => (some t104)) else (some 0))) else (none))) = some r := h
  clear h
  by_cases c2 : a0.toList = ([] : List UInt8)
  · rw [if_pos c2] at H
    have c2b0 : (a0.toList == ([] : List UInt8)) = true := beq_iff_eq.mpr c2
    have c2b1 : (a0.toList != ([] : List UInt8)) = false := bne_eq_false_iff_eq.mpr c2
    clear c2
    obtain rfl := Option.some.inj H
    go_enter Tryd.func31, Tryd.ntmps31
    go_wp2
    go_ret
    exact ⟨by first | rfl | (simp [errW_none, errW_some] <;> rfl) | (simp [*, errW_none, errW_some] <;> rfl), by repeat (first | (with_reducible first | exact HB.out | apply below_alloc | apply pw_below_drewN | apply below_drew1) | exact HB.out)⟩
  · rw [if_neg c2] at H
    have c2b0 : (a0.toList == ([] : List UInt8)) = false := beq_eq_false_iff_ne.mpr c2
    have c2b1 : (a0.toList != ([] : List UInt8)) = true := bne_iff_ne.mpr c2
    by_cases c3 : 0 < (a0.size : Int)
    · rw [if_pos c3] at H
      have c3b0 : decide (0 < (a0.size : Int)) = true := decide_eq_true c3
      have c3b1 : decide (0 < a0.size) = true := decide_eq_true (by omega)
      clear c3
      replace H := Option.bind_eq_some_iff.mp H
      obtain ⟨t103, A50, H⟩ := H
      replace H : (if t103 = 3 then ((lexer_run.f a0).bind fun t104 => (some t104)) else (some 0)) = some r := H
      have A5 := Aside0.mk A50
      clear A50
      by_cases c6 : t103 = 3
      · rw [if_pos c6] at H
        have c6b0 : (t103 == 3) = true := beq_iff_eq.mpr c6
        have c6b1 : (t103 != 3) = false := bne_eq_false_iff_eq.mpr c6
        clear c6
        replace H := Option.bind_eq_some_iff.mp H
        obtain ⟨t104, A70, H⟩ := H
        replace H : (some t104) = some r := H
        have A7 := Aside0.mk A70
        clear A70
        obtain rfl := Option.some.inj H
        have p4 : 0 ≤ (0 : Int) := (by omega)
        have q4 : 0 < a0.size := (by have : (0 : Int) < (a0.size : Int) := of_decide_eq_true (by first | (with_reducible assumption) | assumption); omega)
        have hx4 : ∀ h : 0 < a0.size, ((a0[0]'h).toNat : Int) = bt a0 0 := bt_at a0 0
        clear p4
        have qi4 : (0 < (a0.size : Int)) = True := eq_true (of_decide_eq_true (by first | (with_reducible assumption) | assumption))
        replace q4 := eq_true q4
        go_enter Tryd.func31, Tryd.ntmps31
        go_wp2_with (first | (go_at_call 20; (with_reducible refine (lexer_class.calls k (bt a0 0) t103 _ A5.out).mono ?_); rintro e w' ⟨rfl, ⟨nd, rfl⟩⟩) | ((with_reducible refine gate_callee (f := 27) rfl ?_); refine goesL_ (some 12) rfl rfl Tryd.func27 (by kernel_rfl) rfl #[.string a0] rfl (by (try simp only [List.map_toArray, List.map_cons, List.map_nil]); first | done | rfl | (simp only [List.length_drop, List.length_take]; rfl)) ?_; (with_reducible refine (lexer_run.calls a0 t104 _ A7.out).mono ?_); rintro e w8 ⟨rfl, hb⟩; refine ⟨_, rfl, ?_⟩; have n0_ := Aside0.mk (below_step (by repeat (first | (with_reducible first | exact HB.out | apply below_alloc | apply pw_below_drewN | apply below_drew1) | exact HB.out)) hb); clear HB; have HB := n0_; clear n0_; (try clear hb); (try clear hb2); (try clear hk); (try clear hi)))
        go_ret
        exact ⟨by first | rfl | (simp [errW_none, errW_some] <;> rfl) | (simp [*, errW_none, errW_some] <;> rfl), by repeat (first | (with_reducible first | exact HB.out | apply below_alloc | apply pw_below_drewN | apply below_drew1) | exact HB.out)⟩
      · rw [if_neg c6] at H
        have c6b0 : (t103 == 3) = false := beq_eq_false_iff_ne.mpr c6
        have c6b1 : (t103 != 3) = true := bne_iff_ne.mpr c6
        obtain rfl := Option.some.inj H
        have p4 : 0 ≤ (0 : Int) := (by omega)
        have q4 : 0 < a0.size := (by have : (0 : Int) < (a0.size : Int) := of_decide_eq_true (by first | (with_reducible assumption) | assumption); omega)
        have hx4 : ∀ h : 0 < a0.size, ((a0[0]'h).toNat : Int) = bt a0 0 := bt_at a0 0
        clear p4
        have qi4 : (0 < (a0.size : Int)) = True := eq_true (of_decide_eq_true (by first | (with_reducible assumption) | assumption))
        replace q4 := eq_true q4
        go_enter Tryd.func31, Tryd.ntmps31
        go_wp2_with (first | (go_at_call 20; (with_reducible refine (lexer_class.calls k (bt a0 0) t103 _ A5.out).mono ?_); rintro e w' ⟨rfl, ⟨nd, rfl⟩⟩))
        go_ret
        exact ⟨by first | rfl | (simp [errW_none, errW_some] <;> rfl) | (simp [*, errW_none, errW_some] <;> rfl), by repeat (first | (with_reducible first | exact HB.out | apply below_alloc | apply pw_below_drewN | apply below_drew1) | exact HB.out)⟩
    · rw [if_neg c3] at H
      exact absurd H (by simp)

end Go.Proofs.YtjjhopcbipedaaaDoor.PX
