/- What nodes cost and where a disk's parts are: LayoutParts' and LayoutCosts' plain laws. -/
import Derived.Test.YtgppfalpncbmbaaDoorPXx10
import Derived.Test.YtgppfalpncbmbaaDoorPXx9
import Derived.Test.YtgppfalpncbmbaaDoorPXx5
namespace Go.Proofs.YtgppfalpncbmbaaDoor.PX
open Go.RowKit Go.Proofs.YtgppfalpncbmbaaDoorW.PrintWords Go.Proofs.YtgppfalpncbmbaaDoorW.PrintLast Go.Proofs.YtgppfalpncbmbaaDoorW.PrintMore

theorem wv (x y : Int) (h : x = y) (h0 : 0 ≤ y) (h1 : y < 9223372036854775808) : wrap64 x = y := by subst h; unfold wrap64; omega
theorem ev_shown : Ev (fun k => majordomolaw03_shown.f k) true := by
  refine Ev.of (majordomolaw03_shown.mono) (k := 60) ?_
  decide +kernel

theorem blocks_range (k s : Int) : -1 ≤ blocksF k s ∧ blocksF k s ≤ 38 := by
  unfold blocksF
  repeat' split
  all_goals omega
def costF (k s : Int) : Int := if blocksF k s > 6 then blocksF k s + 1 else if blocksF k s < 0 then 0 else blocksF k s
theorem cost_range (k s : Int) : 0 ≤ costF k s ∧ costF k s ≤ 39 := by
  have := blocks_range k s
  unfold costF
  repeat' split
  all_goals omega
theorem cost_f (k s : Int) : layout_Cost.f k s = some (costF k s) := by
  have h := blocks_range k s
  unfold layout_Cost.f layout_blocks.f costF mx
  simp only [Option.bind_some]
  by_cases h6 : blocksF k s > 6
  · rw [if_pos h6, if_pos h6, wv (blocksF k s + 1) (blocksF k s + 1) rfl (by omega) (by omega), if_neg (by omega)]
  · rw [if_neg h6, if_neg h6]
theorem cost_mono {k a b : Int} (h1 : 1 ≤ k) (h3 : k ≤ 3) (ha : 0 ≤ a) (hab : a ≤ b) (hb : 0 < costF k b) : costF k a ≤ costF k b := by
  have hk : k = 1 ∨ k = 2 ∨ k = 3 := by omega
  have hs : blocksF k b > 0 := by
    unfold costF at hb
    have := blocks_range k b
    repeat' split at hb
    all_goals omega
  have : blocksF k a ≤ blocksF k b := by
    unfold blocksF at hs ⊢
    repeat' split at hs
    all_goals (repeat' split)
    all_goals omega
  unfold costF
  repeat' split
  all_goals omega
theorem ev_LayoutCosts (a0 a1 a2 : Int) : Ev (fun k => majordomolaw03_LayoutCosts.f k a0 a1 a2) true := by
  have r1 := cost_range a0 a1
  have r2 := cost_range a0 a2
  unfold majordomolaw03_LayoutCosts.f
  refine Ev.bind ev_shown ?_
  rw [cost_f, cost_f]
  simp only [Option.bind_some]
  refine Ev.congr (f := fun _ => some true) (fun k => ?_) (Ev.now _)
  have t1 : decide (costF a0 a1 ≤ 39) = true := decide_eq_true r1.2
  have t2 : decide (costF a0 a2 ≤ 39) = true := decide_eq_true r2.2
  have p1 : costF a0 a1 ≥ 0 := r1.1
  have p2 : costF a0 a2 ≥ 0 := r2.1
  rw [t1, t2]
  simp only [if_pos p1, if_pos p2, if_true]
  by_cases h : a1 > a2
  · rw [if_pos h]
    repeat' split
    all_goals first | rfl | (exfalso; rename_i q1 q2 q3 q4 q5; exact q5 (cost_mono (by omega) (by omega) (by omega) (by omega) (by omega)))
  · rw [if_neg h]
    repeat' split
    all_goals first | rfl | (exfalso; rename_i q1 q2 q3 q4 q5; exact q5 (cost_mono (by omega) (by omega) (by omega) (by omega) (by omega)))

theorem ev_data (a0 a1 : Int) : Ev (fun k => majordomoref03_data.f k a0 a1) (blocksF a0 a1) := by
  have hdiv : ∀ x n : Int, 0 ≤ x → x ≤ 10000 → 0 < n → n ≤ 64 → wrap64 (Int.tdiv (wrap64 (x + (n - 1))) n) = (x + (n - 1)) / n := by
    intro x n hx hx2 hn hn2
    rw [wv (x + (n - 1)) (x + (n - 1)) rfl (by omega) (by omega), Int.tdiv_eq_ediv_of_nonneg (by omega)]
    have h1 : 0 ≤ (x + (n - 1)) / n := Int.ediv_nonneg (by omega) (by omega)
    have h2 : (x + (n - 1)) / n ≤ x + (n - 1) := Int.ediv_le_self _ (by omega)
    exact wv _ _ rfl h1 (by omega)
  have d64 : ∀ x : Int, 0 ≤ x → x ≤ 10000 → wrap64 (Int.tdiv (wrap64 (x + 63)) 64) = (x + 63) / 64 := fun x h1 h2 => hdiv x 64 h1 h2 (by omega) (by omega)
  have d2 : ∀ x : Int, 0 ≤ x → x ≤ 10000 → wrap64 (Int.tdiv (wrap64 (x + 1)) 2) = (x + 1) / 2 := fun x h1 h2 => hdiv x 2 h1 h2 (by omega) (by omega)
  clear hdiv
  by_cases hs : a1 < 0
  · refine Ev.congr (f := fun _ => some (blocksF a0 a1)) (fun k => ?_) (Ev.now _)
    unfold majordomoref03_data.f blocksF
    rw [if_pos hs]
    repeat' split
    all_goals first | rfl | omega
  have j1t : 0 ≤ a1 → a1 ≤ 10000 → Ev (fun k => majordomoref03_data.j1 k a0 a1 true) ((a1 + 63) / 64) := by
    intro h1 h2
    refine Ev.step (f := fun _ => some ((a1 + 63) / 64)) (fun k => ?_) (Ev.now _)
    simp only [majordomoref03_data.j1]
    rw [if_pos trivial, d64 a1 h1 h2]
  have j1f : Ev (fun k => majordomoref03_data.j1 k a0 a1 false) (if a0 = 2 then (if a1 ≤ 16 then (a1 + 1) / 2 else -1) else -1) := by
    refine Ev.step (f := fun _ => some (if a0 = 2 then (if a1 ≤ 16 then (a1 + 1) / 2 else -1) else -1)) (fun k => ?_) (Ev.now _)
    simp only [majordomoref03_data.j1]
    rw [if_neg (by decide)]
    by_cases e2 : a0 = 2
    · rw [if_pos e2, if_pos e2]
      by_cases h16 : a1 ≤ 16
      · rw [if_pos h16, if_pos h16, d2 a1 (by omega) (by omega)]
      · rw [if_neg h16, if_neg h16]
    · rw [if_neg e2, if_neg e2]
  have j0f : Ev (fun k => majordomoref03_data.j0 k a0 a1 false) (if a0 = 3 ∧ a1 ≤ 120 then (a1 + 63) / 64 else (if a0 = 2 then (if a1 ≤ 16 then (a1 + 1) / 2 else -1) else -1)) := by
    by_cases e3 : a0 = 3
    · by_cases h120 : a1 ≤ 120
      · rw [if_pos ⟨e3, h120⟩]
        refine Ev.step (fun k => ?_) (j1t (by omega) (by omega))
        simp only [majordomoref03_data.j0]
        rw [if_neg (by decide), if_pos e3, decide_eq_true h120]
      · rw [if_neg (fun h => h120 h.2)]
        refine Ev.step (fun k => ?_) j1f
        simp only [majordomoref03_data.j0]
        rw [if_neg (by decide), if_pos e3, decide_eq_false h120]
    · rw [if_neg (fun h => e3 h.1)]
      refine Ev.step (fun k => ?_) j1f
      simp only [majordomoref03_data.j0]
      rw [if_neg (by decide), if_neg e3]
  by_cases e1 : a0 = 1 ∧ a1 ≤ 2432
  · have : blocksF a0 a1 = (a1 + 63) / 64 := by
      unfold blocksF
      rw [if_neg (by omega), if_neg (by omega), if_neg (by omega), if_pos e1.1, if_neg (by omega)]
    rw [this]
    refine Ev.congr (f := fun k => majordomoref03_data.j0 k a0 a1 true) (fun k => ?_) (Ev.step (fun k => ?_) (j1t (by omega) (by omega)))
    · unfold majordomoref03_data.f
      rw [if_neg hs, if_pos e1.1, decide_eq_true e1.2]
    · simp only [majordomoref03_data.j0]
      rw [if_pos trivial]
  · have : blocksF a0 a1 = (if a0 = 3 ∧ a1 ≤ 120 then (a1 + 63) / 64 else (if a0 = 2 then (if a1 ≤ 16 then (a1 + 1) / 2 else -1) else -1)) := by
      unfold blocksF
      repeat' split
      all_goals omega
    rw [this]
    refine Ev.congr (fun k => ?_) j0f
    unfold majordomoref03_data.f
    rw [if_neg hs]
    by_cases h1 : a0 = 1
    · rw [if_pos h1, decide_eq_false (fun h => e1 ⟨h1, h⟩)]
    · rw [if_neg h1]
theorem ev_refCost (a0 a1 : Int) : Ev (fun k => majordomoref03_Cost.f k a0 a1) (costF a0 a1) := by
  unfold majordomoref03_Cost.f
  refine Ev.bind (ev_data a0 a1) (Ev.congr (fun k => ?_) (Ev.now _))
  have h := blocks_range a0 a1
  unfold costF mx
  by_cases h6 : blocksF a0 a1 > 6
  · rw [if_pos h6, if_pos h6, wv (blocksF a0 a1 + 1) (blocksF a0 a1 + 1) rfl (by omega) (by omega)]
  · rw [if_neg h6, if_neg h6]
    congr 1
    repeat' split
    all_goals omega
def ofF (a : Int) : Int × Int × Int × Int × Int × Int × Int × Int × Int :=
  if a < 512 then (0, 0, 0, 0, 0, 0, 0, 0, 1) else if a > 4096 then (0, 0, 0, 0, 0, 0, 0, 0, 1) else (a, 0, 1, 2, 201, 201 + (a + 511) / 512, 233 + (a + 511) / 512, 64, 0)
theorem of_f (a : Int) : layout_Of.f a = some (ofF a) := by
  unfold layout_Of.f ofF
  by_cases h1 : a < 512
  · rw [if_pos h1, if_pos h1]
  · by_cases h2 : a > 4096
    · rw [if_neg h1, if_neg h1, if_pos h2, if_pos h2]
    · rw [if_neg h1, if_neg h1, if_neg h2, if_neg h2, wv (a + 512) (a + 512) rfl (by omega) (by omega), wv (a + 512 - 1) (a + 511) (by omega) (by omega) (by omega), Int.tdiv_eq_ediv_of_nonneg (by omega),
        wv ((a + 511) / 512) ((a + 511) / 512) rfl (by omega) (by omega), wv (2 + 199 + (a + 511) / 512) (201 + (a + 511) / 512) (by omega) (by omega) (by omega), wv (201 + (a + 511) / 512 + (64 : Int) / 2) (233 + (a + 511) / 512) (by omega) (by omega) (by omega)]
      rfl
theorem refOf_f (a : Int) : majordomoref03_Of.f a = some (ofF a) := by
  unfold majordomoref03_Of.f ofF
  by_cases h1 : a < 512
  · rw [if_pos h1, if_pos h1]
  · by_cases h2 : a > 4096
    · rw [if_neg h1, if_neg h1, if_pos h2, if_pos h2]
    · rw [if_neg h1, if_neg h1, if_neg h2, if_neg h2, wv (a + 511) (a + 511) rfl (by omega) (by omega), Int.tdiv_eq_ediv_of_nonneg (by omega),
        wv ((a + 511) / 512) ((a + 511) / 512) rfl (by omega) (by omega), wv (201 + (a + 511) / 512) (201 + (a + 511) / 512) rfl (by omega) (by omega), wv (201 + (a + 511) / 512 + 32) (233 + (a + 511) / 512) (by omega) (by omega) (by omega)]
theorem ev_LayoutParts (a0 a1 a2 : Int) : Ev (fun k => majordomolaw03_LayoutParts.f k a0 a1 a2) true := by
  unfold majordomolaw03_LayoutParts.f
  refine Ev.bind ev_shown ?_
  rw [of_f, refOf_f]
  simp only [Option.bind_some, beq_self_eq_true, Bool.not_true, Bool.or_false, if_true]
  rw [cost_f]
  simp only [Option.bind_some]
  refine Ev.congr (f := fun k => (majordomoref03_Cost.f k a1 a2).bind fun t225 => (if costF a1 a2 = t225 then some true else some false)) (fun k => ?_) (Ev.bind (ev_refCost a1 a2) (Ev.congr (fun k => by rw [if_pos rfl]) (Ev.now _)))
  rw [if_neg (by decide)]
  congr 1
  funext t
  by_cases ht : costF a1 a2 = t
  · rw [if_pos ht, if_pos ht]
    unfold ofF
    by_cases h1 : a0 < 512
    · rw [if_pos h1, if_neg (by decide)]
    · by_cases h2 : a0 > 4096
      · rw [if_neg h1, if_pos h2, if_neg (by decide)]
      · rw [if_neg h1, if_neg h2]
        simp only [if_true]
        rw [show wrap64 ((wrap64 ((2 : Int) + 7)) + 192) = 201 from by decide +kernel, if_pos rfl, wv (201 + (a0 + 511) / 512 - 201) ((a0 + 511) / 512) (by omega) (by omega) (by omega), wv (a0 + 511) (a0 + 511) rfl (by omega) (by omega), Int.tdiv_eq_ediv_of_nonneg (by omega),
          wv ((a0 + 511) / 512) ((a0 + 511) / 512) rfl (by omega) (by omega), if_pos rfl, show wrap64 (Int.tdiv (64 : Int) 2) = 32 from by decide +kernel, wv (201 + (a0 + 511) / 512 + 32) (233 + (a0 + 511) / 512) (by omega) (by omega) (by omega), if_pos rfl, decide_eq_true (by omega)]
  · rw [if_neg ht, if_neg ht]
end Go.Proofs.YtgppfalpncbmbaaDoor.PX
