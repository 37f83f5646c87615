/- LayoutUnlike's plain law: what nodes' bytes are. -/
import Derived.Test.YtgppfalpncbmbaaDoorPUx7
namespace Go.Proofs.YtgppfalpncbmbaaDoor.PU
open Go.RowKit Go.Proofs.YtgppfalpncbmbaaDoorW.PrintWords Go.Proofs.YtgppfalpncbmbaaDoorW.PrintLast Go.Proofs.YtgppfalpncbmbaaDoorW.PrintMore

theorem ev_shown : Ev (fun k => majordomolaw03_shown.f k) true := by
  refine Ev.of (majordomolaw03_shown.mono) (k := 60) ?_
  decide +kernel
theorem wv (x y : Int) (h : x = y) (h0 : 0 ≤ y) (h1 : y < 9223372036854775808) : wrap64 x = y := by subst h; unfold wrap64; omega
/-- A number's two bytes. -/
def be (v : Int) : List Int := [v / 256 % 256, v % 256]
def bes (l : List Int) : List Int := l.flatMap be
theorem bes_len (l : List Int) : (bes l).length = 2 * l.length := by
  induction l with
  | nil => rfl
  | cons v r ih => simp only [bes, List.flatMap_cons, List.length_append, List.length_cons] at ih ⊢; rw [ih]; simp [be]; omega
theorem bes_cons (v : Int) (r : List Int) : bes (v :: r) = be v ++ bes r := rfl
theorem bes_append (a b : List Int) : bes (a ++ b) = bes a ++ bes b := by unfold bes; rw [List.flatMap_append]
theorem putNum_eq (l : List Int) (off : Nat) (v : Int) (h : off + 2 ≤ l.length) : putNum l off v = l.take off ++ be v ++ l.drop (off + 2) := by
  have ht : (l.take off).length = off := by rw [List.length_take]; omega
  obtain ⟨x, y, r, hd⟩ : ∃ x y r, l.drop off = x :: y :: r := by
    have hl : (l.drop off).length = l.length - off := List.length_drop
    match hx : l.drop off with
    | [] => rw [hx] at hl; simp at hl; omega
    | [x] => rw [hx] at hl; simp at hl; omega
    | x :: y :: r => exact ⟨x, y, r, rfl⟩
  have hr : l.drop (off + 2) = r := by rw [← List.drop_drop, hd]; rfl
  have hl : l = l.take off ++ x :: y :: r := by rw [← hd, List.take_append_drop]
  rw [hr]
  generalize l.take off = t at ht hl
  rw [hl]
  unfold putNum be
  rw [List.set_append_right _ _ (by omega), ht, Nat.sub_self, List.set_cons_zero, List.set_append_right _ _ (by omega), ht, show off + 1 - off = 0 + 1 by omega, List.set_cons_succ, List.set_cons_zero]
  simp
theorem putAll_eq : ∀ (vs : List Int) (l : List Int) (off : Nat), off + 2 * vs.length ≤ l.length → putAll l off vs = l.take off ++ bes vs ++ l.drop (off + 2 * vs.length) := by
  intro vs
  induction vs with
  | nil => intro l off h; simp [putAll, bes]
  | cons v r ih =>
    intro l off h
    simp only [List.length_cons] at h
    unfold putAll
    have hp := putNum_eq l off v (by omega)
    have hl : (putNum l off v).length = l.length := by unfold putNum; simp
    rw [ih _ _ (by rw [hl]; omega), hp, bes_cons]
    have hbe : (be v).length = 2 := rfl
    have ht : (l.take off).length = off := by rw [List.length_take]; omega
    have e1 : (l.take off ++ be v ++ l.drop (off + 2)).take (off + 2) = l.take off ++ be v := by
      rw [List.take_append_of_le_length (by rw [List.length_append, ht, hbe]; exact Nat.le_refl _), List.take_of_length_le (by rw [List.length_append, ht, hbe]; exact Nat.le_refl _)]
    have e2 : (l.take off ++ be v ++ l.drop (off + 2)).drop (off + 2 + 2 * r.length) = l.drop (off + 2 * (r.length + 1)) := by
      rw [List.drop_append, List.length_append, ht, hbe, List.drop_eq_nil_of_le (by rw [List.length_append, ht, hbe]; omega), List.nil_append, List.drop_drop]
      congr 1
      omega
    rw [e1, e2, List.length_cons]
    simp only [List.append_assoc]
theorem head_bytes (k m s mo : Int) (l : List Int) : nodeBytes k m s l mo = [k % 256] ++ bes [m, s, mo] ++ bes (l.take 6) ++ List.replicate (25 - 2 * (l.take 6).length) 0 := by
  have hl : (l.take 6).length ≤ 6 := by rw [List.length_take]; omega
  unfold nodeBytes
  have e0 : (List.replicate 32 (0 : Int)).set 0 (k % 256) = [k % 256] ++ List.replicate 31 0 := rfl
  rw [e0, putAll_eq [m, s, mo] _ 1 (by simp)]
  have e1 : List.take 1 ([k % 256] ++ List.replicate 31 (0 : Int)) ++ bes [m, s, mo] ++ List.drop (1 + 2 * [m, s, mo].length) ([k % 256] ++ List.replicate 31 0) = ([k % 256] ++ bes [m, s, mo]) ++ List.replicate 25 0 := rfl
  rw [e1]
  have hb : ([k % 256] ++ bes [m, s, mo]).length = 7 := rfl
  rw [putAll_eq _ _ 7 (by rw [List.length_append, hb, List.length_replicate]; omega)]
  rw [List.take_append_of_le_length (by rw [hb]; exact Nat.le_refl _), List.take_of_length_le (by rw [hb]; exact Nat.le_refl _), List.drop_append, hb, List.drop_eq_nil_of_le (by rw [hb]; omega), List.nil_append, List.drop_replicate]
  congr 2
  omega
theorem more_bytes (l : List Int) (h : l.length ≤ 38) : moreBytes l = bes (l.drop 6) ++ List.replicate (64 - 2 * (l.drop 6).length) 0 := by
  have hl : (l.drop 6).length ≤ 32 := by rw [List.length_drop]; omega
  unfold moreBytes
  rw [putAll_eq _ _ 0 (by rw [List.length_replicate]; omega), List.take_zero, List.nil_append, Nat.zero_add, List.drop_replicate]
theorem blocks_range (k s : Int) : -1 ≤ blocksF k s ∧ blocksF k s ≤ 38 := by
  unfold blocksF
  repeat' split
  all_goals omega
structure Ok (k m s : Int) (l : List Int) (mo : Int) : Prop where
  n : blocksF k s = (l.length : Int)
  bl : ∀ b ∈ l, 1 ≤ b ∧ b < 4096
  m0 : 0 ≤ m
  m1 : m ≤ 4095
  far : 6 < l.length → 1 ≤ mo ∧ mo < 4096
  near : l.length ≤ 6 → mo = 0
theorem Ok.len {k m s mo : Int} {l : List Int} (h : Ok k m s l mo) : l.length ≤ 38 := by have := blocks_range k s; have := h.n; omega
theorem Ok.kind {k m s mo : Int} {l : List Int} (h : Ok k m s l mo) : 1 ≤ k ∧ k ≤ 3 ∧ 0 ≤ s ∧ s ≤ 2432 := by
  have h1 := h.n
  unfold blocksF at h1
  repeat' split at h1
  all_goals omega
theorem Ok.mo {k m s mo : Int} {l : List Int} (h : Ok k m s l mo) : 0 ≤ mo ∧ mo < 4096 := by
  by_cases h6 : l.length ≤ 6
  · have := h.near h6; omega
  · have := h.far (by omega); omega
theorem ok_iff {k m s mo : Int} {l : List Int} : nodeOk k m s l mo = true ↔ Ok k m s l mo := by
  unfold nodeOk
  constructor
  · intro h
    simp only [Bool.or_eq_false_iff, decide_eq_false_iff_not, Bool.and_eq_false_iff, List.any_eq_false, Bool.not_eq_eq_eq_not, Bool.not_true, Bool.not_false, bne_eq_false_iff_eq, ne_eq, Decidable.not_not] at h
    obtain ⟨⟨⟨⟨⟨⟨h1, h2⟩, h3⟩, h4⟩, h5⟩, h6⟩, h7⟩ := h
    have hb : ∀ b : Int, blkB b = true → 1 ≤ b ∧ b < 4096 := fun b hb => by
      unfold blkB at hb
      simp only [Bool.and_eq_true, decide_eq_true_eq] at hb
      omega
    refine ⟨h2, fun b hm => hb b (by simpa using h3 b hm), by omega, by omega, fun hf => ?_, fun hn => ?_⟩
    · have : decide (blocksF k s > 6) = true := decide_eq_true (by omega)
      rw [this] at h6
      exact hb mo h6.symm
    · have : decide (blocksF k s > 6) = false := decide_eq_false (by omega)
      rw [this] at h7
      simpa using h7
  · intro h
    have hb : ∀ b : Int, 1 ≤ b → b < 4096 → blkB b = true := fun b h1 h2 => by
      unfold blkB
      simp only [Bool.and_eq_true, decide_eq_true_eq]
      omega
    have hn := h.n
    have h3 : l.any (fun b => !blkB b) = false := by
      rw [List.any_eq_false]
      intro b hm
      rw [hb b (h.bl b hm).1 (h.bl b hm).2]
      simp
    have h6 : (decide (blocksF k s > 6) != blkB mo) = false ∧ (!decide (blocksF k s > 6) && decide (mo ≠ 0)) = false := by
      by_cases hf : 6 < l.length
      · rw [decide_eq_true (by omega), hb mo (h.far hf).1 (h.far hf).2]
        exact ⟨rfl, rfl⟩
      · rw [decide_eq_false (by omega), h.near (by omega)]
        exact ⟨rfl, rfl⟩
    rw [h3, h6.1, h6.2, decide_eq_false (show ¬ blocksF k s < 0 by omega), decide_eq_false (show ¬ blocksF k s ≠ (l.length : Int) by omega), decide_eq_false (show ¬ m < 0 by have := h.m0; omega), decide_eq_false (show ¬ m > 4095 by have := h.m1; omega)]
    rfl
theorem rd_get (l : List Int) (i : Nat) (h : i < l.length) : rd l (i : Int) = l[i] := by
  unfold rd
  rw [Int.toNat_natCast, List.getD_eq_getElem?_getD, List.getElem?_eq_getElem h]
  rfl
/-- What either puts. -/
def putF (k m s : Int) (l : List Int) (mo : Int) : List Int × List Int × Int :=
  if nodeOk k m s l mo then (nodeBytes k m s l mo, if blocksF k s > 6 then moreBytes l else [], 0) else ([], [], 1)
theorem put_f (k m s : Int) (l : List Int) (mo : Int) (hz : l.length ≤ 4611686018427387904) : layout_PutNode.f k m s l mo = some (putF k m s l mo) := by
  unfold layout_PutNode.f putF
  rw [if_pos hz]
end Go.Proofs.YtgppfalpncbmbaaDoor.PU
