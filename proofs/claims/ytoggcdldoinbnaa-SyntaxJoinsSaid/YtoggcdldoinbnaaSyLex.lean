/- The words of a text (the reference's Lex): that each text has them, and the slice they come in. -/
import Derived.Test.YtoggcdldoinbnaaPLx5
import Derived.Test.YtoggcdldoinbnaaSynM
namespace Go.Proofs.Ytoggcdldoinbnaa.PL
open Go.RowKit Go.Proofs.YtoggcdldoinbnaaW.PrintWords Go.Proofs.YtoggcdldoinbnaaW.PrintLast Go.Proofs.YtoggcdldoinbnaaW.PrintMore
set_option linter.unusedVariables false

theorem w64 (x y : Int) (h : x = y) (h1 : -9223372036854775808 ≤ y) (h2 : y ≤ 9223372036854775807) : wrap64 x = y := by subst h; unfold wrap64; omega
/-- From some fuel on an answer, and it is so. -/
def Ends {α : Type} (P : α → Prop) (g : Nat → Option α) : Prop := ∃ r, P r ∧ Ev g r
theorem Ends.now {α : Type} {P : α → Prop} {r : α} (h : P r) : Ends P (fun _ => some r) := ⟨r, h, Ev.now r⟩
theorem Ends.step {α : Type} {P : α → Prop} {g f : Nat → Option α} (h : ∀ k, g (k + 1) = f k) (k : Ends P f) : Ends P g := by
  obtain ⟨r, h1, h2⟩ := k
  exact ⟨r, h1, Ev.step h h2⟩
theorem Ends.ite {α : Type} {P : α → Prop} {c : Prop} [Decidable c] {f g : Nat → Option α} (h : c → Ends P f) (k : ¬ c → Ends P g) : Ends P (fun n => if c then f n else g n) := by
  by_cases hc : c
  · simp only [if_pos hc]; exact h hc
  · simp only [if_neg hc]; exact k hc
theorem Ends.bind {α β : Type} {Q : α → Prop} {P : β → Prop} {g : Nat → Option α} {f : Nat → α → Option β} (h : Ends Q g) (k : ∀ a, Q a → Ends P (fun n => f n a)) : Ends P (fun n => (g n).bind (f n)) := by
  obtain ⟨r, h1, h2⟩ := h
  obtain ⟨s, h3, h4⟩ := k r h1
  exact ⟨s, h3, Ev.bind h2 h4⟩
theorem Ends.mono {α : Type} {P Q : α → Prop} {g : Nat → Option α} (h : Ends P g) (k : ∀ r, P r → Q r) : Ends Q g := by
  obtain ⟨r, h1, h2⟩ := h
  exact ⟨r, k r h1, h2⟩

theorem small_ends (a : Int) : Ends (fun _ => True) (fun _ => majordomoref11_small.f a) := by
  unfold majordomoref11_small.f
  exact Ends.ite (fun _ => Ends.now trivial) (fun _ => Ends.now trivial)
theorem digit_ends (a : Int) : Ends (fun _ => True) (fun _ => majordomoref11_digit.f a) := by
  unfold majordomoref11_digit.f
  exact Ends.ite (fun _ => Ends.now trivial) (fun _ => Ends.now trivial)
theorem tail_ends (a : Int) : Ends (fun _ => True) (fun _ => majordomoref11_tail.f a) := by
  unfold majordomoref11_tail.f
  exact Ends.bind (small_ends a) fun _ _ => Ends.ite (fun _ => Ends.now trivial) fun _ => Ends.bind (digit_ends a) fun _ _ => Ends.ite (fun _ => Ends.now trivial) (fun _ => Ends.now trivial)

theorem part_l0 (s : ByteArray) (hz : s.size ≤ 65536) : ∀ (d : Nat) (n : Int), 0 ≤ n → s.size - n ≤ d → Ends (fun _ => True) (fun k => majordomoref11_part.l0 k s n) := by
  intro d
  induction d with
  | zero =>
    intro n h0 h1
    refine Ends.step (fun k => by simp only [majordomoref11_part.l0]; rfl) ?_
    refine Ends.ite (fun h => absurd h (by omega)) fun _ => Ends.ite (fun h => Ends.ite (fun _ => Ends.bind (small_ends _) fun _ _ => Ends.now trivial) (fun h2 => absurd h h2)) (fun _ => Ends.now trivial)
  | succ d ih =>
    intro n h0 h1
    refine Ends.step (fun k => by simp only [majordomoref11_part.l0]; rfl) ?_
    refine Ends.ite (fun h => ?_) fun _ => Ends.ite (fun h => Ends.ite (fun _ => Ends.bind (small_ends _) fun _ _ => Ends.now trivial) (fun h2 => absurd h h2)) (fun _ => Ends.now trivial)
    refine Ends.ite (fun _ => Ends.bind (tail_ends _) fun _ _ => Ends.ite (fun _ => ?_) (fun _ => Ends.now trivial)) (fun h2 => absurd h0 h2)
    rw [w64 (n + 1) (n + 1) rfl (by omega) (by omega)]
    exact ih (n + 1) (by omega) (by omega)
theorem part_ends (s : ByteArray) (hz : s.size ≤ 65536) : Ends (fun _ => True) (fun k => majordomoref11_part.f k s) := part_l0 s hz s.size 1 (by omega) (by omega)
theorem type_l0 (s : ByteArray) (hz : s.size ≤ 65536) : ∀ (d : Nat) (n : Int), 0 ≤ n → s.size - n ≤ d → Ends (fun _ => True) (fun k => majordomoref11_Type.l0 k s n) := by
  intro d
  induction d with
  | zero =>
    intro n h0 h1
    refine Ends.step (fun k => by simp only [majordomoref11_Type.l0]; rfl) ?_
    refine Ends.ite (fun h => absurd h (by omega)) fun _ => Ends.ite (fun h => Ends.ite (fun _ => Ends.ite (fun _ => Ends.now trivial) (fun _ => Ends.now trivial)) (fun h2 => absurd h h2)) (fun _ => Ends.now trivial)
  | succ d ih =>
    intro n h0 h1
    refine Ends.step (fun k => by simp only [majordomoref11_Type.l0]; rfl) ?_
    refine Ends.ite (fun h => ?_) fun _ => Ends.ite (fun h => Ends.ite (fun _ => Ends.ite (fun _ => Ends.now trivial) (fun _ => Ends.now trivial)) (fun h2 => absurd h h2)) (fun _ => Ends.now trivial)
    refine Ends.ite (fun _ => Ends.bind (tail_ends _) fun _ _ => Ends.ite (fun _ => ?_) (fun _ => Ends.now trivial)) (fun h2 => absurd h0 h2)
    rw [w64 (n + 1) (n + 1) rfl (by omega) (by omega)]
    exact ih (n + 1) (by omega) (by omega)
theorem type_ends (s : ByteArray) (hz : s.size ≤ 65536) : Ends (fun _ => True) (fun k => majordomoref11_Type.f k s) := type_l0 s hz s.size 1 (by omega) (by omega)
theorem extract_le (s : ByteArray) (i j : Nat) (hz : s.size ≤ 65536) : (s.extract i j).size ≤ 65536 := by
  rw [ByteArray.size_extract]
  omega

theorem name_l0 (s : ByteArray) (hz : s.size ≤ 65536) : ∀ (d : Nat) (m n : Int), 0 ≤ m → m ≤ n → n ≤ s.size → s.size - n ≤ d → Ends (fun _ => True) (fun k => majordomoref11_Name.l0 k s m n) := by
  intro d
  induction d with
  | zero =>
    intro m n h0 h1 h2 h3
    refine Ends.step (fun k => by simp only [majordomoref11_Name.l0]; rfl) ?_
    rw [w64 (n + 1) (n + 1) rfl (by omega) (by omega)]
    refine Ends.ite (fun h => absurd h (by omega)) fun _ => Ends.ite (fun h => Ends.ite (fun _ => Ends.bind (part_ends _ (extract_le s _ _ hz)) fun _ _ => Ends.now trivial) (fun h => absurd h (by omega))) (fun h => absurd h (by omega))
  | succ d ih =>
    intro m n h0 h1 h2 h3
    have hj : ∀ b : Bool, n + 1 < s.size → Ends (fun _ => True) (fun k => majordomoref11_Name.j1 k s m n b) := by
      intro b hb
      refine Ends.step (fun k => by simp only [majordomoref11_Name.j1]; rfl) ?_
      rw [w64 (n + 1) (n + 1) rfl (by omega) (by omega), w64 (n + 2) (n + 2) rfl (by omega) (by omega), w64 (n + 1 + 1) (n + 2) (by omega) (by omega) (by omega)]
      refine Ends.ite (fun _ => Ends.ite (fun _ => Ends.ite (fun _ => Ends.ite (fun _ => Ends.bind (part_ends _ (extract_le s _ _ hz)) fun _ _ => Ends.ite (fun _ => ?_) (fun _ => Ends.now trivial)) (fun h => absurd h (by omega))) (fun h => absurd h (by omega))) (fun h => absurd h (by omega))) (fun _ => ?_)
      · exact ih (n + 2) (n + 2) (by omega) (by omega) (by omega) (by omega)
      · exact ih m (n + 1) (by omega) (by omega) (by omega) (by omega)
    refine Ends.step (fun k => by simp only [majordomoref11_Name.l0]; rfl) ?_
    rw [w64 (n + 1) (n + 1) rfl (by omega) (by omega)]
    refine Ends.ite (fun h => ?_) fun _ => Ends.ite (fun h => Ends.ite (fun _ => Ends.bind (part_ends _ (extract_le s _ _ hz)) fun _ _ => Ends.now trivial) (fun h => absurd h (by omega))) (fun h => absurd h (by omega))
    refine Ends.ite (fun _ => Ends.ite (fun _ => Ends.ite (fun _ => Ends.ite (fun _ => ?_) (fun h => absurd h (by omega))) (fun _ => ?_)) (fun h => absurd h (by omega))) (fun h => absurd h (by omega))
    · exact hj _ h
    · exact hj _ h
theorem name_ends (s : ByteArray) (hz : s.size ≤ 65536) : Ends (fun _ => True) (fun k => majordomoref11_Name.f k s) := name_l0 s hz s.size 0 0 (by omega) (by omega) (by omega) (by omega)

theorem word_l0 (s : ByteArray) (hz : s.size ≤ 65536) : ∀ (d : Nat) (n : Int), 0 ≤ n → s.size - n ≤ d → Ends (fun _ => True) (fun k => majordomoref11_word.l0 k s s.size n) := by
  intro d
  induction d with
  | zero =>
    intro n h0 h1
    refine Ends.step (fun k => by simp only [majordomoref11_word.l0]; rfl) ?_
    exact Ends.ite (fun h => absurd h (by omega)) fun _ => Ends.ite (fun h => Ends.now trivial) (fun _ => Ends.now trivial)
  | succ d ih =>
    intro n h0 h1
    refine Ends.step (fun k => by simp only [majordomoref11_word.l0]; rfl) ?_
    refine Ends.ite (fun h => ?_) fun _ => Ends.ite (fun h => Ends.now trivial) (fun _ => Ends.now trivial)
    refine Ends.ite (fun _ => Ends.ite (fun _ => Ends.bind (digit_ends _) fun _ _ => Ends.ite (fun _ => ?_) (fun _ => Ends.now trivial)) (fun h2 => absurd h h2)) (fun h2 => absurd h0 h2)
    rw [w64 (n + 1) (n + 1) rfl (by omega) (by omega)]
    exact ih (n + 1) (by omega) (by omega)
theorem word_j2 (s : ByteArray) (hz : s.size ≤ 65536) : Ends (fun _ => True) (fun k => majordomoref11_word.j2 k s s.size) := by
  refine Ends.step (fun k => by simp only [majordomoref11_word.j2]; rfl) ?_
  iterate 15 refine Ends.ite (fun _ => Ends.now trivial) (fun _ => ?_)
  exact word_l0 s hz s.size 0 (by omega) (by omega)
theorem word_j1 (s : ByteArray) (hz : s.size ≤ 65536) (b : Bool) (hb : b = true → 1 < s.size) : Ends (fun _ => True) (fun k => majordomoref11_word.j1 k s s.size b) := by
  refine Ends.step (fun k => by simp only [majordomoref11_word.j1]; rfl) ?_
  rw [w64 ((s.size : Int) - 1) ((s.size : Int) - 1) rfl (by omega) (by omega)]
  refine Ends.ite (fun h => ?_) (fun _ => ?_)
  · have := hb h
    exact Ends.ite (fun _ => Ends.ite (fun _ => Ends.now trivial) (fun h => absurd h (by omega))) (fun h => absurd h (by omega))
  · refine Ends.ite (fun h1 => ?_) (fun _ => word_j2 s hz)
    refine Ends.ite (fun _ => ?_) (fun h => absurd h (by omega))
    refine Ends.ite (fun _ => ?_) (fun _ => word_j2 s hz)
    refine Ends.ite (fun _ => ?_) (fun h => absurd h (by omega))
    refine Ends.ite (fun _ => ?_) (fun h => absurd h (by omega))
    refine Ends.ite (fun _ => ?_) (fun _ => word_j2 s hz)
    exact Ends.ite (fun _ => Ends.ite (fun _ => Ends.now trivial) (fun h => absurd h (by omega))) (fun h => absurd h (by omega))
theorem word_j0 (s : ByteArray) (hz : s.size ≤ 65536) (b : Bool) (hb : b = true → 1 < s.size) : Ends (fun _ => True) (fun k => majordomoref11_word.j0 k s s.size b) := by
  refine Ends.step (fun k => by simp only [majordomoref11_word.j0]; rfl) ?_
  rw [w64 ((s.size : Int) - 1) ((s.size : Int) - 1) rfl (by omega) (by omega)]
  refine Ends.ite (fun h => ?_) (fun _ => ?_)
  · have := hb h
    exact Ends.ite (fun _ => Ends.now trivial) (fun h => absurd h (by omega))
  · refine Ends.ite (fun h1 => ?_) (fun _ => word_j1 s hz _ (fun e => by cases e))
    refine Ends.ite (fun _ => ?_) (fun h => absurd h (by omega))
    refine Ends.ite (fun _ => ?_) (fun _ => word_j1 s hz _ (fun e => by cases e))
    refine Ends.ite (fun _ => ?_) (fun h => absurd h (by omega))
    exact Ends.ite (fun _ => word_j1 s hz _ (fun _ => by omega)) (fun h => absurd h (by omega))
theorem word_ends (s : ByteArray) (hz : s.size ≤ 65536) : Ends (fun _ => True) (fun k => majordomoref11_word.f k s) := by
  unfold majordomoref11_word.f
  refine Ends.bind (name_ends s hz) fun _ _ => Ends.ite (fun _ => Ends.now trivial) fun _ => ?_
  refine Ends.bind (type_ends s hz) fun _ _ => Ends.ite (fun _ => Ends.now trivial) fun _ => ?_
  refine Ends.ite (fun h1 => ?_) (fun _ => word_j0 s hz _ (fun e => by cases e))
  refine Ends.ite (fun _ => ?_) (fun h => absurd h (by omega))
  refine Ends.ite (fun _ => ?_) (fun _ => word_j0 s hz _ (fun e => by cases e))
  refine Ends.ite (fun _ => ?_) (fun h => absurd h (by omega))
  exact Ends.bind (part_ends _ (extract_le s _ _ hz)) fun _ _ => word_j0 s hz _ (fun _ => by omega)

/-! ### how far a word goes -/
section
variable (s : ByteArray)
abbrev In (r : Int) : Prop := 0 ≤ r ∧ r ≤ s.size
theorem reach_l0 (hz : s.size ≤ 65536) (c : Int) : ∀ (d : Nat) (n : Int), 0 ≤ n → s.size - n ≤ d → Ends (In s) (fun k => majordomoref11_reach.l0 k s c n) := by
  intro d
  induction d with
  | zero =>
    intro n h0 h1
    refine Ends.step (fun k => by simp only [majordomoref11_reach.l0]; rfl) ?_
    exact Ends.ite (fun h => absurd h (by omega)) fun _ => Ends.now ⟨by omega, by omega⟩
  | succ d ih =>
    intro n h0 h1
    refine Ends.step (fun k => by simp only [majordomoref11_reach.l0]; rfl) ?_
    refine Ends.ite (fun h => ?_) fun _ => Ends.now ⟨by omega, by omega⟩
    rw [w64 (n + 1) (n + 1) rfl (by omega) (by omega)]
    exact Ends.ite (fun _ => Ends.ite (fun _ => Ends.now ⟨by omega, by omega⟩) (fun _ => ih (n + 1) (by omega) (by omega))) (fun h2 => absurd h0 h2)
theorem reach_l1 (hz : s.size ≤ 65536) : ∀ (d : Nat) (n : Int), 0 ≤ n → n ≤ s.size → s.size - n ≤ d → Ends (In s) (fun k => majordomoref11_reach.l1 k s n) := by
  intro d
  induction d with
  | zero =>
    intro n h0 h2 h1
    refine Ends.step (fun k => by simp only [majordomoref11_reach.l1]; rfl) ?_
    exact Ends.ite (fun h => absurd h (by omega)) fun _ => Ends.now ⟨by omega, by omega⟩
  | succ d ih =>
    intro n h0 h2 h1
    refine Ends.step (fun k => by simp only [majordomoref11_reach.l1]; rfl) ?_
    refine Ends.ite (fun h => ?_) fun _ => Ends.now ⟨by omega, by omega⟩
    rw [w64 (n + 1) (n + 1) rfl (by omega) (by omega)]
    exact Ends.ite (fun _ => Ends.bind (digit_ends _) fun _ _ => Ends.ite (fun _ => ih (n + 1) (by omega) (by omega) (by omega)) (fun _ => Ends.now ⟨by omega, by omega⟩)) (fun h2 => absurd h0 h2)
theorem reach_l34 (hz : s.size ≤ 65536) (c : Int) : ∀ (d : Nat) (n : Int), 0 ≤ n → n ≤ s.size → s.size - n ≤ d → Ends (In s) (fun k => majordomoref11_reach.l3 k s c n) ∧ Ends (In s) (fun k => majordomoref11_reach.l4 k s c n) := by
  intro d
  have hf : ∀ n : Int, 0 ≤ n → n ≤ s.size → Ends (In s) (fun k => majordomoref11_reach.j8 k s c n false) := by
    intro n h0 h2
    refine Ends.step (fun k => by simp only [majordomoref11_reach.j8]; rfl) ?_
    exact Ends.ite (fun h => by cases h) (fun _ => Ends.now ⟨h0, h2⟩)
  induction d with
  | zero =>
    intro n h0 h2 h1
    have h3 : Ends (In s) (fun k => majordomoref11_reach.l3 k s c n) := by
      refine Ends.step (fun k => by simp only [majordomoref11_reach.l3]; rfl) ?_
      rw [w64 (n + 2) (n + 2) rfl (by omega) (by omega)]
      refine Ends.bind (small_ends _) fun _ _ => Ends.ite (fun _ => ?_) (fun _ => hf n h0 h2)
      exact Ends.ite (fun h => absurd h (by omega)) (fun _ => hf n h0 h2)
    refine ⟨h3, ?_⟩
    refine Ends.step (fun k => by simp only [majordomoref11_reach.l4]; rfl) ?_
    exact Ends.ite (fun h => absurd h (by omega)) fun _ => h3
  | succ d ih =>
    intro n h0 h2 h1
    have h3 : Ends (In s) (fun k => majordomoref11_reach.l3 k s c n) := by
      refine Ends.step (fun k => by simp only [majordomoref11_reach.l3]; rfl) ?_
      rw [w64 (n + 2) (n + 2) rfl (by omega) (by omega), w64 (n + 1) (n + 1) rfl (by omega) (by omega)]
      refine Ends.bind (small_ends _) fun _ _ => Ends.ite (fun _ => ?_) (fun _ => hf n h0 h2)
      refine Ends.ite (fun h => ?_) (fun _ => hf n h0 h2)
      refine Ends.ite (fun _ => ?_) (fun h => absurd h (by omega))
      refine Ends.ite (fun _ => ?_) (fun h => absurd h (by omega))
      refine Ends.ite (fun _ => ?_) (fun _ => hf n h0 h2)
      refine Ends.ite (fun _ => ?_) (fun h => absurd h (by omega))
      refine Ends.ite (fun _ => ?_) (fun h => absurd h (by omega))
      refine Ends.ite (fun _ => ?_) (fun _ => hf n h0 h2)
      refine Ends.ite (fun _ => ?_) (fun h => absurd h (by omega))
      refine Ends.bind (small_ends _) fun b _ => ?_
      refine Ends.step (fun k => by simp only [majordomoref11_reach.j8]; rfl) ?_
      rw [w64 (n + 3) (n + 3) rfl (by omega) (by omega)]
      exact Ends.ite (fun _ => (ih (n + 3) (by omega) (by omega) (by omega)).2) (fun _ => Ends.now ⟨h0, h2⟩)
    refine ⟨h3, ?_⟩
    refine Ends.step (fun k => by simp only [majordomoref11_reach.l4]; rfl) ?_
    refine Ends.ite (fun h => ?_) fun _ => h3
    rw [w64 (n + 1) (n + 1) rfl (by omega) (by omega)]
    exact Ends.ite (fun _ => Ends.bind (tail_ends _) fun _ _ => Ends.ite (fun _ => (ih (n + 1) (by omega) (by omega) (by omega)).2) (fun _ => h3)) (fun h2 => absurd h0 h2)
theorem reach_l2 (hz : s.size ≤ 65536) (c : Int) : ∀ (d : Nat) (n : Int), 0 ≤ n → n ≤ s.size → s.size - n ≤ d → Ends (In s) (fun k => majordomoref11_reach.l2 k s c n) := by
  have hj : ∀ n : Int, 0 ≤ n → n ≤ s.size → Ends (In s) (fun k => majordomoref11_reach.j6 k s c n) := fun n h0 h2 => Ends.step (fun k => by simp only [majordomoref11_reach.j6]) (reach_l34 s hz c s.size n h0 h2 (by omega)).1
  intro d
  induction d with
  | zero =>
    intro n h0 h2 h1
    refine Ends.step (fun k => by simp only [majordomoref11_reach.l2]; rfl) ?_
    exact Ends.ite (fun h => absurd h (by omega)) fun _ => hj n h0 h2
  | succ d ih =>
    intro n h0 h2 h1
    refine Ends.step (fun k => by simp only [majordomoref11_reach.l2]; rfl) ?_
    refine Ends.ite (fun h => ?_) fun _ => hj n h0 h2
    rw [w64 (n + 1) (n + 1) rfl (by omega) (by omega)]
    exact Ends.ite (fun _ => Ends.bind (tail_ends _) fun _ _ => Ends.ite (fun _ => ih (n + 1) (by omega) (by omega) (by omega)) (fun _ => hj n h0 h2)) (fun h2 => absurd h0 h2)
theorem reach_j4 (hz : s.size ≤ 65536) (h0 : 0 < s.size) (c : Int) (b : Bool) : Ends (In s) (fun k => majordomoref11_reach.j4 k s c 1 b) := by
  refine Ends.step (fun k => by simp only [majordomoref11_reach.j4]; rfl) ?_
  refine Ends.ite (fun _ => reach_l2 s hz c s.size 1 (by omega) (by omega) (by omega)) (fun _ => Ends.now ?_)
  unfold mn
  constructor
  · split <;> omega
  · split <;> omega
theorem reach_j2 (hz : s.size ≤ 65536) (h0 : 0 < s.size) (c : Int) (b : Bool) : Ends (In s) (fun k => majordomoref11_reach.j2 k s c b) := by
  refine Ends.step (fun k => by simp only [majordomoref11_reach.j2]; rfl) ?_
  refine Ends.ite (fun _ => Ends.now ⟨by omega, by omega⟩) (fun _ => ?_)
  refine Ends.bind (digit_ends _) fun _ _ => Ends.ite (fun _ => reach_l1 s hz s.size 1 (by omega) (by omega) (by omega)) (fun _ => ?_)
  refine Ends.bind (small_ends _) fun _ _ => Ends.ite (fun _ => reach_j4 s hz h0 c _) (fun _ => ?_)
  exact Ends.ite (fun _ => Ends.ite (fun _ => reach_j4 s hz h0 c _) (fun _ => reach_j4 s hz h0 c _)) (fun _ => reach_j4 s hz h0 c _)
theorem reach_j0 (hz : s.size ≤ 65536) (h0 : 0 < s.size) (c : Int) (b : Bool) : Ends (In s) (fun k => majordomoref11_reach.j0 k s c b) := by
  refine Ends.step (fun k => by simp only [majordomoref11_reach.j0]; rfl) ?_
  refine Ends.ite (fun _ => reach_l0 s hz c s.size 1 (by omega) (by omega)) (fun _ => ?_)
  refine Ends.ite (fun _ => ?_) (fun _ => reach_j2 s hz h0 c _)
  refine Ends.ite (fun _ => reach_j2 s hz h0 c _) (fun _ => ?_)
  exact Ends.ite (fun _ => Ends.bind (small_ends _) fun _ _ => reach_j2 s hz h0 c _) (fun h => absurd h (by omega))
theorem reach_ends (hz : s.size ≤ 65536) (h0 : 0 < s.size) : Ends (In s) (fun k => majordomoref11_reach.f k s) := by
  unfold majordomoref11_reach.f
  refine Ends.ite (fun _ => ?_) (fun h => absurd h (by omega))
  exact Ends.ite (fun _ => reach_j0 s hz h0 _ _) (fun _ => reach_j0 s hz h0 _ _)
end

/-! ### the words of a text -/
section
variable (s : ByteArray)
abbrev Few (r : List S37 × Int × Int) : Prop := r.1.length ≤ 65536
def From (n : Int) : Prop := ∀ (m : Int) (l : List S37), n ≤ m → m ≤ s.size → (l.length : Int) ≤ m → Ends Few (fun k => majordomoref11_Lex.l0 k s l m)
theorem lex_l1 (hz : s.size ≤ 65536) : ∀ (d : Nat) (n : Int) (l : List S37), From s n → 0 ≤ n → n ≤ s.size → (l.length : Int) ≤ n → s.size - n ≤ d → Ends Few (fun k => majordomoref11_Lex.l1 k s l n) := by
  intro d
  induction d with
  | zero =>
    intro n l hF h0 h1 h2 h3
    refine Ends.step (fun k => by simp only [majordomoref11_Lex.l1]; rfl) ?_
    exact Ends.ite (fun h => absurd h (by omega)) (fun _ => hF n l (by omega) h1 h2)
  | succ d ih =>
    intro n l hF h0 h1 h2 h3
    refine Ends.step (fun k => by simp only [majordomoref11_Lex.l1]; rfl) ?_
    refine Ends.ite (fun h => ?_) (fun _ => hF n l (by omega) h1 h2)
    rw [w64 (n + 1) (n + 1) rfl (by omega) (by omega)]
    refine Ends.ite (fun _ => Ends.ite (fun _ => hF n l (by omega) h1 h2) (fun _ => ?_)) (fun h2 => absurd h0 h2)
    exact ih (n + 1) l (fun m l' e => hF m l' (by omega)) (by omega) (by omega) (by omega) (by omega)
theorem lex_l2 (hz : s.size ≤ 65536) (n : Int) (l : List S37) (hF : From s (n + 1)) (h0 : 0 ≤ n) (h1 : n < s.size) (h2 : (l.length : Int) ≤ n) : ∀ (d : Nat) (x a : Int) (b : ByteArray) (c : Int), 0 ≤ x → n + x ≤ s.size → x ≤ d → Ends Few (fun k => majordomoref11_Lex.l2 k s l n x a b c) := by
  have hput : ∀ (x a : Int) (b : ByteArray), 0 < x → n + x ≤ s.size → Ends Few (fun k => if a = 6 then (if x > 9 then (some (([] : List (S37)), n, 110)) else (if l.length < 4398046511104 then (majordomoref11_Lex.l0 k s (l ++ [(⟨a, b, n⟩ : S37)]) (wrap64 (n + x))) else (none))) else (if l.length < 4398046511104 then (majordomoref11_Lex.l0 k s (l ++ [(⟨a, b, n⟩ : S37)]) (wrap64 (n + x))) else (none))) := by
    intro x a b hx hn
    rw [w64 (n + x) (n + x) rfl (by omega) (by omega)]
    have hq : Ends Few (fun k => if l.length < 4398046511104 then (majordomoref11_Lex.l0 k s (l ++ [(⟨a, b, n⟩ : S37)]) (n + x)) else (none)) :=
      Ends.ite (fun _ => hF (n + x) _ (by omega) hn (by rw [List.length_append]; simp; omega)) (fun h => absurd h (by omega))
    exact Ends.ite (fun _ => Ends.ite (fun _ => Ends.now (by simp [Few])) (fun _ => hq)) (fun _ => hq)
  intro d
  induction d with
  | zero =>
    intro x a b c hx hn hd
    refine Ends.step (fun k => by simp only [majordomoref11_Lex.l2]; rfl) ?_
    refine Ends.ite (fun h => absurd h (by omega)) (fun _ => ?_)
    exact Ends.ite (fun _ => Ends.now (by simp [Few])) (fun h => absurd h (by omega))
  | succ d ih =>
    intro x a b c hx hn hd
    refine Ends.step (fun k => by simp only [majordomoref11_Lex.l2]; rfl) ?_
    refine Ends.ite (fun hp => ?_) (fun hp => ?_)
    · refine Ends.ite (fun ha => ?_) (fun ha => ?_)
      · rw [w64 (x - 1) (x - 1) rfl (by omega) (by omega), w64 (n + (x - 1)) (n + (x - 1)) rfl (by omega) (by omega)]
        refine Ends.ite (fun _ => ?_) (fun h => absurd h (by omega))
        refine Ends.ite (fun _ => ?_) (fun h => absurd h (by omega))
        refine Ends.ite (fun _ => ?_) (fun h => absurd h (by omega))
        exact Ends.bind (word_ends _ (extract_le s _ _ hz)) fun r _ => ih (x - 1) r.1 r.2.1 r.2.2 (by omega) (by omega) (by omega)
      · refine Ends.ite (fun h => absurd h (by omega)) (fun _ => ?_)
        exact hput x a b hp hn
    · exact Ends.ite (fun _ => Ends.now (by simp [Few])) (fun h => absurd h (by omega))
theorem lex_j1 (hz : s.size ≤ 65536) (n : Int) (l : List S37) (hF : From s (n + 1)) (h0 : 0 ≤ n) (h1 : n < s.size) (h2 : (l.length : Int) ≤ n) (b : Bool) : Ends Few (fun k => majordomoref11_Lex.j1 k s l n (bt s n) b) := by
  refine Ends.step (fun k => by simp only [majordomoref11_Lex.j1]; rfl) ?_
  refine Ends.ite (fun _ => ?_) (fun _ => ?_)
  · rw [w64 (n + 1) (n + 1) rfl (by omega) (by omega)]
    exact hF (n + 1) l (by omega) (by omega) (by omega)
  · refine Ends.ite (fun h35 => ?_) (fun _ => ?_)
    · refine Ends.step (fun k => by simp only [majordomoref11_Lex.l1]; rfl) ?_
      rw [w64 (n + 1) (n + 1) rfl (by omega) (by omega)]
      refine Ends.ite (fun _ => ?_) (fun h => absurd h (by omega))
      refine Ends.ite (fun _ => ?_) (fun h => absurd h (by omega))
      refine Ends.ite (fun h => absurd h (by omega)) (fun _ => ?_)
      exact lex_l1 s hz s.size (n + 1) l hF (by omega) (by omega) (by omega) (by omega)
    · refine Ends.ite (fun _ => ?_) (fun h => absurd h (by omega))
      refine Ends.ite (fun _ => ?_) (fun h => absurd h (by omega))
      have hsz : (s.extract n.toNat s.size).size = s.size - n.toNat := by rw [ByteArray.size_extract]; omega
      refine Ends.bind (reach_ends _ (extract_le s _ _ hz) (by omega)) fun r hr => ?_
      obtain ⟨hr0, hr1⟩ := hr
      rw [w64 (n + r) (n + r) rfl (by omega) (by omega)]
      refine Ends.ite (fun _ => ?_) (fun h => absurd h (by omega))
      refine Ends.ite (fun _ => ?_) (fun h => absurd h (by omega))
      exact Ends.bind (word_ends _ (extract_le s _ _ hz)) fun q _ => lex_l2 s hz n l hF h0 h1 h2 r.toNat r q.1 q.2.1 q.2.2 hr0 (by omega) (by omega)
theorem lex_l0 (hz : s.size ≤ 65536) : ∀ (d : Nat) (n : Int), 0 ≤ n → s.size - n ≤ d → From s n := by
  intro d
  induction d with
  | zero =>
    intro n h0 h1 m l e1 e2 e3
    refine Ends.step (fun k => by simp only [majordomoref11_Lex.l0]; rfl) ?_
    exact Ends.ite (fun h => absurd h (by omega)) (fun _ => Ends.now (show l.length ≤ 65536 by omega))
  | succ d ih =>
    intro n h0 h1 m l e1 e2 e3
    refine Ends.step (fun k => by simp only [majordomoref11_Lex.l0]; rfl) ?_
    refine Ends.ite (fun h => ?_) (fun _ => Ends.now (show l.length ≤ 65536 by omega))
    have hF : From s (m + 1) := ih (m + 1) (by omega) (by omega)
    refine Ends.ite (fun _ => ?_) (fun h => absurd h (by omega))
    iterate 3 refine Ends.ite (fun _ => lex_j1 s hz m l hF (by omega) h e3 _) (fun _ => ?_)
    exact lex_j1 s hz m l hF (by omega) h e3 _
theorem words_ends : Ends (fun r => r.length ≤ 65536) (fun k => majordomolaw12_words.f k s) := by
  unfold majordomolaw12_words.f majordomoref11_Lex.f
  refine Ends.bind (Q := Few) ?_ (fun r hr => Ends.now hr)
  refine Ends.ite (fun _ => Ends.now (by simp [Few])) (fun h => ?_)
  exact lex_l0 s (by omega) s.size 0 (by omega) (by omega) 0 [] (by omega) (by omega) (by simp)
end
end Go.Proofs.Ytoggcdldoinbnaa.PL
