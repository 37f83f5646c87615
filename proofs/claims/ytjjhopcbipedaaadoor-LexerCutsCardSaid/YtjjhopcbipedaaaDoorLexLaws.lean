/- The lexer's laws over lists of bytes: a word cut out is that word; a blank behind changes no word; what two texts with a line between come to. -/
import Derived.Test.YtjjhopcbipedaaaDoorLexSpec
namespace Go.Proofs.YtjjhopcbipedaaaDoor.Lex

/-! ### runs -/
theorem tw_le (p : UInt8 → Bool) (l : List UInt8) : (l.takeWhile p).length ≤ l.length := (List.takeWhile_prefix p).length_le
theorem tw_ext (p : UInt8 → Bool) : ∀ (l : List UInt8) (c : UInt8) (t : List UInt8), p c = false → (l ++ c :: t).takeWhile p = l.takeWhile p
  | [], c, t, h => by rw [List.nil_append, List.takeWhile_cons, h]; rfl
  | b :: r, c, t, h => by
    rw [List.cons_append, List.takeWhile_cons, List.takeWhile_cons, tw_ext p r c t h]
theorem tw_cut (p : UInt8 → Bool) : ∀ (l : List UInt8) (j : Nat), (l.takeWhile p).length ≤ j → ((l.take j).takeWhile p).length = (l.takeWhile p).length
  | [], j, _ => by simp
  | b :: r, 0, h => by
    have : (b :: r).takeWhile p = [] := List.length_eq_zero_iff.1 (by omega)
    rw [this]
    rfl
  | b :: r, j + 1, h => by
    rw [List.take_succ_cons, List.takeWhile_cons, List.takeWhile_cons]
    rw [List.takeWhile_cons] at h
    cases hp : p b with
    | false => rfl
    | true =>
      rw [hp] at h
      simp only [if_true, List.length_cons] at h ⊢
      rw [tw_cut p r j (by omega)]
theorem runL_ext (l : List UInt8) (c : UInt8) (t : List UInt8) (h : isTail c = false) : runL (l ++ c :: t) = runL l := by unfold runL; rw [tw_ext _ _ _ _ h]
theorem digL_ext (l : List UInt8) (c : UInt8) (t : List UInt8) (h : isDig c = false) : digL (l ++ c :: t) = digL l := by unfold digL; rw [tw_ext _ _ _ _ h]
theorem partL_ext (l : List UInt8) (c : UInt8) (t : List UInt8) (h : isTail c = false) : partL (l ++ c :: t) = partL l := by
  cases l with
  | nil =>
    rw [List.nil_append, partL_cons]
    have : isSmall c = false := by
      cases hs : isSmall c with
      | false => rfl
      | true => rw [small_tail hs] at h; cases h
    rw [this]
    rfl
  | cons b r =>
    rw [List.cons_append, partL_cons, partL_cons, ← List.cons_append, runL_ext _ _ _ h]
theorem partL_cut (l : List UInt8) (j : Nat) (h : partL l ≤ j) : partL (l.take j) = partL l := by
  cases l with
  | nil => simp
  | cons b r =>
    rw [partL_cons] at h
    cases hs : isSmall b with
    | false =>
      rw [partL_cons, hs]
      cases j with
      | zero => rfl
      | succ j => rw [List.take_succ_cons, partL_cons, hs]; rfl
    | true =>
      rw [hs, if_pos rfl] at h
      have hp := partL_pos (r := r) hs
      rw [partL_cons, hs, if_pos rfl] at hp
      cases j with
      | zero => omega
      | succ j =>
        rw [List.take_succ_cons, partL_cons, partL_cons, hs, if_pos rfl, if_pos rfl, ← List.take_succ_cons]
        exact tw_cut _ _ _ h

/-! ### names -/
theorem colons_ext (l : List UInt8) (c : UInt8) (t : List UInt8) (h : c ≠ 58) : colons (l ++ c :: t) = colons l := by
  match l with
  | [] =>
    simp only [List.nil_append]
    unfold colons
    split
    · rename_i he; simp only [List.cons.injEq] at he; exact absurd he.1 h
    · rfl
  | [a] =>
    simp only [List.cons_append, List.nil_append]
    unfold colons
    split
    · rename_i he; simp only [List.cons.injEq] at he; exact absurd he.2.1 h
    · show false = colons [a]
      simp [colons]
  | a :: b :: r =>
    simp only [List.cons_append]
    by_cases ha : a = 58
    · by_cases hb : b = 58
      · subst ha hb; rfl
      · unfold colons
        split
        · rename_i he; simp only [List.cons.injEq] at he; exact absurd he.2.1 hb
        · split
          · rename_i he; simp only [List.cons.injEq] at he; exact absurd he.2.1 hb
          · rfl
    · unfold colons
      split
      · rename_i he; simp only [List.cons.injEq] at he; exact absurd he.1 ha
      · split
        · rename_i he; simp only [List.cons.injEq] at he; exact absurd he.1 ha
        · rfl
theorem colons_two {l : List UInt8} (h : colons l = true) : 2 ≤ l.length := by
  match l, h with
  | [a], h => simp [colons] at h
  | a :: b :: r, _ => simp
theorem colons_take {l : List UInt8} (j : Nat) (h : 2 ≤ j) : colons (l.take j) = colons l := by
  match l, j, h with
  | [], _, _ => simp
  | [a], j + 2, _ => simp
  | a :: b :: r, j + 2, _ =>
    simp only [List.take_succ_cons]
    by_cases ha : a = 58
    · by_cases hb : b = 58
      · subst ha hb; rfl
      · unfold colons
        split
        · rename_i he; simp only [List.cons.injEq] at he; exact absurd he.2.1 hb
        · split
          · rename_i he; simp only [List.cons.injEq] at he; exact absurd he.2.1 hb
          · rfl
    · unfold colons
      split
      · rename_i he; simp only [List.cons.injEq] at he; exact absurd he.1 ha
      · split
        · rename_i he; simp only [List.cons.injEq] at he; exact absurd he.1 ha
        · rfl
theorem nameGo_succ (f : Nat) (l : List UInt8) (n : Nat) : nameGo (f + 1) l n = if 0 < n ∧ colons (l.drop n) = true then (if partL (l.drop (n + 2)) = 0 then n else nameGo f l (n + 2 + partL (l.drop (n + 2)))) else n := rfl
/-- Enough rounds are enough. -/
theorem nameGo_fuel : ∀ (f g : Nat) (l : List UInt8) (n : Nat), l.length ≤ f + n → l.length ≤ g + n → n ≤ l.length → nameGo f l n = nameGo g l n
  | 0, 0, _, _, _, _, _ => rfl
  | 0, g + 1, l, n, h1, h2, h3 => by
    obtain rfl : n = l.length := by omega
    rw [nameGo_succ, List.drop_length]
    rw [if_neg (by simp [colons])]
    rfl
  | f + 1, 0, l, n, h1, h2, h3 => by
    obtain rfl : n = l.length := by omega
    rw [nameGo_succ, List.drop_length]
    rw [if_neg (by simp [colons])]
    rfl
  | f + 1, g + 1, l, n, h1, h2, h3 => by
    rw [nameGo_succ, nameGo_succ]
    by_cases hc : 0 < n ∧ colons (l.drop n) = true
    · rw [if_pos hc, if_pos hc]
      by_cases hp : partL (l.drop (n + 2)) = 0
      · rw [if_pos hp, if_pos hp]
      · rw [if_neg hp, if_neg hp]
        have := partL_le (l.drop (n + 2))
        simp only [List.length_drop] at this
        exact nameGo_fuel f g l _ (by omega) (by omega) (by omega)
    · rw [if_neg hc, if_neg hc]
theorem nameGo_ext (c : UInt8) (t : List UInt8) (h1 : isTail c = false) (h2 : c ≠ 58) : ∀ (f : Nat) (l : List UInt8) (n : Nat), n ≤ l.length → nameGo f (l ++ c :: t) n = nameGo f l n
  | 0, _, _, _ => rfl
  | f + 1, l, n, hn => by
    rw [nameGo_succ, nameGo_succ, List.drop_append_of_le_length hn, colons_ext _ _ _ h2]
    by_cases hc : 0 < n ∧ colons (l.drop n) = true
    · have h3 := colons_two hc.2
      simp only [List.length_drop] at h3
      rw [if_pos hc, if_pos hc, List.drop_append_of_le_length (by omega), partL_ext _ _ _ h1]
      by_cases hp : partL (l.drop (n + 2)) = 0
      · rw [if_pos hp, if_pos hp]
      · rw [if_neg hp, if_neg hp]
        have := partL_le (l.drop (n + 2))
        simp only [List.length_drop] at this
        exact nameGo_ext c t h1 h2 f l _ (by omega)
    · rw [if_neg hc, if_neg hc]
theorem nameL_ext (l : List UInt8) (c : UInt8) (t : List UInt8) (h1 : isTail c = false) (h2 : c ≠ 58) : nameL (l ++ c :: t) = nameL l := by
  unfold nameL
  have hp := partL_le l
  rw [partL_ext _ _ _ h1, nameGo_ext c t h1 h2 _ _ _ hp]
  exact nameGo_fuel _ _ _ _ (by simp; omega) (by omega) hp
theorem nameGo_cut : ∀ (f : Nat) (l : List UInt8) (n N : Nat), nameGo f l n = N → l.length ≤ f + n → n ≤ l.length → nameGo f (l.take N) n = N
  | 0, l, n, N, h, h1, h2 => h
  | f + 1, l, n, N, h, h1, h2 => by
    have hN : n ≤ N := h ▸ nameGo_ge _ _ _
    have hNl : N ≤ l.length := h ▸ nameGo_le _ _ _ h2
    rw [nameGo_succ] at h ⊢
    by_cases hc : 0 < n ∧ colons (l.drop n) = true
    · rw [if_pos hc] at h
      by_cases hp : partL (l.drop (n + 2)) = 0
      · rw [if_pos hp] at h
        subst h
        have : (l.take n).drop n = [] := by rw [List.drop_eq_nil_iff, List.length_take]; omega
        rw [this, if_neg (by simp [colons])]
      · rw [if_neg hp] at h
        have hge : n + 2 + partL (l.drop (n + 2)) ≤ N := h ▸ nameGo_ge _ _ _
        have hle := partL_le (l.drop (n + 2))
        simp only [List.length_drop] at hle
        have e1 : colons ((l.take N).drop n) = true := by rw [List.drop_take, colons_take _ (by omega)]; exact hc.2
        have e2 : partL ((l.take N).drop (n + 2)) = partL (l.drop (n + 2)) := by rw [List.drop_take]; exact partL_cut _ _ (by omega)
        rw [if_pos ⟨hc.1, e1⟩, e2, if_neg hp]
        exact nameGo_cut f l _ N h (by omega) (by omega)
    · rw [if_neg hc] at h
      subst h
      have : (l.take n).drop n = [] := by rw [List.drop_eq_nil_iff, List.length_take]; omega
      rw [this, if_neg (by simp [colons])]
theorem nameL_cut (l : List UInt8) : nameL (l.take (nameL l)) = nameL l := by
  have hp := partL_le l
  have hge : partL l ≤ nameL l := nameGo_ge _ _ _
  have hle := nameL_le l
  have h1 : partL (l.take (nameL l)) = partL l := partL_cut _ _ hge
  have h2 := nameGo_cut l.length l (partL l) (nameL l) rfl (by omega) hp
  have h3 : (l.take (nameL l)).length = nameL l := by rw [List.length_take]; omega
  show nameGo (l.take (nameL l)).length (l.take (nameL l)) (partL (l.take (nameL l))) = nameL l
  rw [h1]
  exact (nameGo_fuel _ _ _ _ (by rw [h3]; omega) (by rw [h3]; omega) (by rw [h3]; omega)).trans h2

/-! ### quotes, signs -/
theorem idxL_cons (b : UInt8) (r : List UInt8) (c : UInt8) : idxL (b :: r) c = if b == c then some 0 else (idxL r c).map (· + 1) := by unfold idxL; rw [List.findIdx?_cons]
theorem idxL_ext : ∀ (l : List UInt8) (c : UInt8) (t : List UInt8) (i : Nat), idxL l c = some i → idxL (l ++ t) c = some i
  | [], c, t, i, h => by simp [idxL] at h
  | b :: r, c, t, i, h => by
    rw [List.cons_append, idxL_cons]
    rw [idxL_cons] at h
    by_cases hb : (b == c) = true
    · rw [if_pos hb] at h ⊢; exact h
    · rw [if_neg hb] at h ⊢
      obtain ⟨j, hj, rfl⟩ := Option.map_eq_some_iff.1 h
      rw [idxL_ext r c t j hj]
      rfl
theorem idxL_cut : ∀ (l : List UInt8) (c : UInt8) (i j : Nat), idxL l c = some i → i < j → idxL (l.take j) c = some i
  | [], c, i, j, h, _ => by simp [idxL] at h
  | b :: r, c, i, j, h, hj => by
    obtain ⟨j, rfl⟩ : ∃ m, j = m + 1 := ⟨j - 1, by omega⟩
    rw [List.take_succ_cons, idxL_cons]
    rw [idxL_cons] at h
    by_cases hb : (b == c) = true
    · rw [if_pos hb] at h ⊢; exact h
    · rw [if_neg hb] at h ⊢
      obtain ⟨k, hk, rfl⟩ := Option.map_eq_some_iff.1 h
      rw [idxL_cut r c k j hk (by omega)]
      rfl
theorem idxL_at : ∀ (l : List UInt8) (c : UInt8) (i : Nat), idxL l c = some i → l[i]? = some c
  | [], c, i, h => by simp [idxL] at h
  | b :: r, c, i, h => by
    rw [idxL_cons] at h
    by_cases hb : (b == c) = true
    · rw [if_pos hb] at h
      cases h
      simpa using hb
    · rw [if_neg hb] at h
      obtain ⟨k, hk, rfl⟩ := Option.map_eq_some_iff.1 h
      simpa using idxL_at r c k hk
theorem signL_self : ∀ x ∈ signs, signL x = some x := by decide
theorem prefix_ext (x : List UInt8) (hx : x ∈ signs) (b : UInt8) (r : List UInt8) (c : UInt8) (t : List UInt8) (h1 : c ≠ 61) (h2 : c ≠ 62) : x.isPrefixOf ((b :: r) ++ c :: t) = x.isPrefixOf (b :: r) := by
  have h3 : ∀ x ∈ signs, (∃ a, x = [a]) ∨ ∃ a d, x = [a, d] ∧ (d = 61 ∨ d = 62) := by
    intro x hx
    simp only [signs, List.mem_cons, List.not_mem_nil, or_false] at hx
    rcases hx with rfl | rfl | rfl | rfl | rfl | rfl | rfl | rfl | rfl | rfl | rfl | rfl | rfl | rfl | rfl <;> first | exact .inl ⟨_, rfl⟩ | exact .inr ⟨_, _, rfl, .inl rfl⟩ | exact .inr ⟨_, _, rfl, .inr rfl⟩
  rcases h3 x hx with ⟨a, rfl⟩ | ⟨a, d, rfl, hd⟩
  · simp [List.isPrefixOf]
  · cases r with
    | nil =>
      simp only [List.cons_append, List.nil_append, List.isPrefixOf, Bool.and_true]
      have : (d == c) = false := by
        rw [beq_eq_false_iff_ne]
        rintro rfl
        rcases hd with hd | hd
        · exact h1 hd
        · exact h2 hd
      rw [this]
    | cons e r => simp [List.isPrefixOf]
theorem signL_ext (b : UInt8) (r : List UInt8) (c : UInt8) (t : List UInt8) (h1 : c ≠ 61) (h2 : c ≠ 62) : signL ((b :: r) ++ c :: t) = signL (b :: r) := by
  unfold signL
  exact Go.Lib.find_congr fun x hx => prefix_ext x hx b r c t h1 h2

/-! ### words -/
theorem blank_not {c : UInt8} (h : isBlank c = true) : isTail c = false ∧ isDig c = false ∧ c ≠ 58 ∧ c ≠ 61 ∧ c ≠ 62 ∧ c ≠ 35 := by
  unfold isBlank at h
  simp only [Bool.or_eq_true, beq_iff_eq] at h
  rcases h with ((h | h) | h) | h <;> subst h <;> decide
/-- A blank behind a text changes nothing of the word at its beginning. -/
theorem wordL_ext {l : List UInt8} {c : UInt8} (t : List UInt8) (hc : isBlank c = true) {w : Nat × Nat × Nat × Nat} (h : wordL l = some w) : wordL (l ++ c :: t) = some w := by
  obtain ⟨h1, h2, h3, h4, h5, -⟩ := blank_not hc
  cases l with
  | nil => simp [wordL] at h
  | cons b r =>
    rw [List.cons_append, wordL_cons, ← List.cons_append, nameL_ext _ _ _ h1 h3, runL_ext _ _ _ h1, digL_ext _ _ _ h2, partL_ext _ _ _ h1, signL_ext _ _ _ _ h4 h5]
    rw [wordL_cons] at h
    cases hs : isSmall b with
    | true => rw [hs] at h; exact h
    | false =>
    cases hg : isGreat b with
    | true => rw [hs, hg] at h; exact h
    | false =>
    cases hd : isDig b with
    | true => rw [hs, hg, hd] at h; exact h
    | false =>
    rw [hs, hg, hd] at h
    simp only [Bool.false_eq_true, if_false] at h ⊢
    by_cases hq : b = 39 ∨ b = 34
    · rw [if_pos hq] at h ⊢
      cases hi : idxL r b with
      | none => rw [hi] at h; cases h
      | some i => rw [hi] at h; rw [idxL_ext r b (c :: t) i hi]; exact h
    · rw [if_neg hq] at h ⊢
      exact h
/-- A word cut out is that word. -/
theorem wordL_cut {l : List UInt8} {k lo hi n : Nat} (h : wordL l = some (k, lo, hi, n)) : wordL (l.take n) = some (k, lo, hi, n) := by
  cases l with
  | nil => simp [wordL] at h
  | cons b r =>
    have hok := wordL_ok h
    obtain ⟨m, rfl⟩ : ∃ m, n = m + 1 := ⟨n - 1, by omega⟩
    rw [List.take_succ_cons, wordL_cons, ← List.take_succ_cons]
    rw [wordL_cons] at h
    cases hs : isSmall b with
    | true =>
      rw [hs] at h
      simp only [if_true, Option.some.injEq, Prod.mk.injEq] at h ⊢
      obtain ⟨rfl, rfl, rfl, h4⟩ := h
      rw [← h4, nameL_cut]
      exact ⟨rfl, rfl, rfl, rfl⟩
    | false =>
    cases hg : isGreat b with
    | true =>
      rw [hs, hg] at h
      simp only [if_true, if_false, Bool.false_eq_true, Option.some.injEq, Prod.mk.injEq] at h ⊢
      obtain ⟨rfl, rfl, rfl, h4⟩ := h
      have e : m = runL r := by omega
      have e2 : runL (r.take m) = runL r := by rw [e]; exact tw_cut _ _ _ (Nat.le_refl _)
      rw [e2]
      simp [h4]
    | false =>
    cases hd : isDig b with
    | true =>
      rw [hs, hg, hd] at h
      simp only [if_true, if_false, Bool.false_eq_true] at h ⊢
      by_cases h9 : 1 + digL r > 9
      · rw [if_pos h9] at h; cases h
      · rw [if_neg h9] at h
        simp only [Option.some.injEq, Prod.mk.injEq] at h
        obtain ⟨rfl, rfl, rfl, h4⟩ := h
        have e : m = digL r := by omega
        have e2 : digL (r.take m) = digL r := by rw [e]; exact tw_cut _ _ _ (Nat.le_refl _)
        rw [e2, if_neg h9, h4]
    | false =>
    rw [hs, hg, hd] at h
    simp only [Bool.false_eq_true, if_false] at h ⊢
    by_cases hq : b = 39 ∨ b = 34
    · rw [if_pos hq] at h ⊢
      cases hi : idxL r b with
      | none => rw [hi] at h; cases h
      | some i =>
        rw [hi] at h
        simp only [Option.some.injEq, Prod.mk.injEq] at h
        obtain ⟨h1, rfl, rfl, h4⟩ := h
        rw [idxL_cut r b i m hi (by omega)]
        simp only [Option.some.injEq, Prod.mk.injEq]
        exact ⟨h1, trivial, trivial, h4⟩
    · rw [if_neg hq] at h ⊢
      by_cases h36 : b = 36
      · rw [if_pos h36] at h ⊢
        by_cases hp : partL r = 0
        · rw [if_pos hp] at h; cases h
        · rw [if_neg hp] at h
          simp only [Option.some.injEq, Prod.mk.injEq] at h
          obtain ⟨rfl, rfl, rfl, h4⟩ := h
          rw [partL_cut r m (by omega), if_neg hp, h4]
      · rw [if_neg h36] at h ⊢
        cases hx : signL (b :: r) with
        | none => rw [hx] at h; cases h
        | some x =>
          rw [hx] at h
          simp only [Option.some.injEq, Prod.mk.injEq] at h
          obtain ⟨rfl, rfl, rfl, h4⟩ := h
          obtain ⟨hm, hp⟩ := signL_spec hx
          have e := List.prefix_iff_eq_take.1 (List.isPrefixOf_iff_prefix.1 hp)
          rw [h4] at e
          rw [← e, signL_self x hm]
          simp only [h4]
/-- A word as it stands in a text, by what it says. -/
def textOf (k : Nat) (t : List UInt8) : List UInt8 := if k = 3 then 36 :: t else if k = 4 then 39 :: (t ++ [39]) else if k = 5 then 34 :: (t ++ [34]) else t
theorem take_split (r : List UInt8) (b c : UInt8) (i : Nat) (h : r[i]? = some c) : (b :: r).take (i + 2) = b :: (((b :: r).take (1 + i)).drop 1 ++ [c]) := by
  rw [Nat.add_comm 1 i, List.take_succ_cons, List.take_succ_cons, List.drop_succ_cons, List.drop_zero]
  congr 1
  have hlt := (List.getElem?_eq_some_iff.1 h).1
  rw [List.take_succ_eq_append_getElem hlt]
  rw [List.getElem?_eq_getElem hlt, Option.some.injEq] at h
  rw [h]
theorem textOf_word {l : List UInt8} {k lo hi n : Nat} (h : wordL l = some (k, lo, hi, n)) : textOf k ((l.take hi).drop lo) = l.take n := by
  cases l with
  | nil => simp [wordL] at h
  | cons b r =>
    rw [wordL_cons] at h
    cases hs : isSmall b with
    | true =>
      rw [hs] at h
      simp only [if_true, Option.some.injEq, Prod.mk.injEq] at h
      obtain ⟨rfl, rfl, rfl, rfl⟩ := h
      rfl
    | false =>
    cases hg : isGreat b with
    | true =>
      rw [hs, hg] at h
      simp only [if_true, if_false, Bool.false_eq_true, Option.some.injEq, Prod.mk.injEq] at h
      obtain ⟨rfl, rfl, rfl, rfl⟩ := h
      rfl
    | false =>
    cases hd : isDig b with
    | true =>
      rw [hs, hg, hd] at h
      simp only [if_true, if_false, Bool.false_eq_true] at h
      by_cases h9 : 1 + digL r > 9
      · rw [if_pos h9] at h; cases h
      · rw [if_neg h9] at h
        simp only [Option.some.injEq, Prod.mk.injEq] at h
        obtain ⟨rfl, rfl, rfl, rfl⟩ := h
        rfl
    | false =>
    rw [hs, hg, hd] at h
    simp only [Bool.false_eq_true, if_false] at h
    by_cases hq : b = 39 ∨ b = 34
    · rw [if_pos hq] at h
      cases hi : idxL r b with
      | none => rw [hi] at h; cases h
      | some i =>
        rw [hi] at h
        simp only [Option.some.injEq, Prod.mk.injEq] at h
        obtain ⟨rfl, rfl, rfl, rfl⟩ := h
        have ha := idxL_at r b i hi
        rw [take_split r b b i ha]
        rcases hq with rfl | rfl
        · rfl
        · rfl
    · rw [if_neg hq] at h
      by_cases h36 : b = 36
      · rw [if_pos h36] at h
        by_cases hp : partL r = 0
        · rw [if_pos hp] at h; cases h
        · rw [if_neg hp] at h
          simp only [Option.some.injEq, Prod.mk.injEq] at h
          obtain ⟨rfl, rfl, rfl, rfl⟩ := h
          rw [Nat.add_comm 1 (partL r), List.take_succ_cons, h36]
          rfl
      · rw [if_neg h36] at h
        cases hx : signL (b :: r) with
        | none => rw [hx] at h; cases h
        | some x =>
          rw [hx] at h
          simp only [Option.some.injEq, Prod.mk.injEq] at h
          obtain ⟨rfl, rfl, rfl, rfl⟩ := h
          rfl

/-! ### texts -/
structure Tok where
  kind : Nat
  text : List UInt8
  at_ : Nat
def comL (l : List UInt8) : Nat := match idxL l 10 with | none => l.length | some n => n
/-- A text from position p on is cut into these words. -/
inductive Lexes : Nat → List UInt8 → List Tok → Prop
  | nil (p : Nat) : Lexes p [] []
  | blank {p : Nat} {b : UInt8} {r : List UInt8} {ts : List Tok} : isBlank b = true → Lexes (p + 1) r ts → Lexes p (b :: r) ts
  | comment {p : Nat} {r : List UInt8} {ts : List Tok} : Lexes (p + comL (35 :: r)) ((35 :: r).drop (comL (35 :: r))) ts → Lexes p (35 :: r) ts
  | word {p : Nat} {l : List UInt8} {ts : List Tok} {k lo hi n : Nat} : wordL l = some (k, lo, hi, n) → Lexes (p + n) (l.drop n) ts → Lexes p l (⟨k, (l.take hi).drop lo, p⟩ :: ts)
/-- The words, or where it can't go on. -/
def lexF : Nat → Nat → List UInt8 → List Tok ⊕ Nat
  | 0, _, _ => .inl []
  | _ + 1, _, [] => .inl []
  | f + 1, p, b :: r =>
    if isBlank b then lexF f (p + 1) r
    else if b = 35 then lexF f (p + comL (b :: r)) ((b :: r).drop (comL (b :: r)))
    else match wordL (b :: r) with
      | none => .inr p
      | some (k, lo, hi, n) => match lexF f (p + n) ((b :: r).drop n) with
        | .inr q => .inr q
        | .inl ts => .inl (⟨k, ((b :: r).take hi).drop lo, p⟩ :: ts)
theorem comL_pos (r : List UInt8) : 1 ≤ comL (35 :: r) := by
  unfold comL
  rw [idxL_cons, if_neg (by decide)]
  cases idxL r 10 with
  | none => simp
  | some i => simp
theorem comL_le (l : List UInt8) : comL l ≤ l.length := by
  unfold comL
  cases h : idxL l 10 with
  | none => exact Nat.le_refl _
  | some i => exact Nat.le_of_lt (idxL_lt h)
theorem lexF_lexes : ∀ (f p : Nat) (l : List UInt8) (ts : List Tok), l.length ≤ f → lexF f p l = .inl ts → Lexes p l ts
  | 0, p, l, ts, hf, h => by
    obtain rfl : l = [] := List.length_eq_zero_iff.1 (by omega)
    cases h
    exact .nil p
  | f + 1, p, [], ts, hf, h => by
    cases h
    exact .nil p
  | f + 1, p, b :: r, ts, hf, h => by
    simp only [List.length_cons] at hf
    unfold lexF at h
    by_cases hb : isBlank b = true
    · rw [if_pos hb] at h
      exact .blank hb (lexF_lexes f _ r ts (by omega) h)
    · rw [if_neg hb] at h
      by_cases h35 : b = 35
      · subst h35
        rw [if_pos rfl] at h
        have := comL_pos r
        exact .comment (lexF_lexes f _ _ ts (by simp only [List.length_drop, List.length_cons]; omega) h)
      · rw [if_neg h35] at h
        cases hw : wordL (b :: r) with
        | none => rw [hw] at h; cases h
        | some w =>
          obtain ⟨k, lo, hi, n⟩ := w
          rw [hw] at h
          simp only at h
          have hok := wordL_ok hw
          cases hl : lexF f (p + n) ((b :: r).drop n) with
          | inr q => rw [hl] at h; cases h
          | inl us =>
            rw [hl] at h
            cases h
            exact .word hw (lexF_lexes f _ _ us (by simp only [List.length_drop, List.length_cons]; omega) hl)
theorem wordL_head {l : List UInt8} {w : Nat × Nat × Nat × Nat} (h : wordL l = some w) : ∃ b r, l = b :: r ∧ isBlank b = false ∧ b ≠ 35 := by
  cases l with
  | nil => simp [wordL] at h
  | cons b r =>
    refine ⟨b, r, rfl, ?_, ?_⟩
    · cases hb : isBlank b with
      | false => rfl
      | true =>
        exfalso
        unfold isBlank at hb
        simp only [Bool.or_eq_true, beq_iff_eq] at hb
        rw [wordL_cons] at h
        have hn : ∀ x : UInt8, (x = 9 ∨ x = 10 ∨ x = 13 ∨ x = 32) → signL (x :: r) = none := by
          intro x hx
          rcases hx with rfl | rfl | rfl | rfl <;> simp [signL, signs, List.isPrefixOf]
        rcases hb with ((hb | hb) | hb) | hb <;> subst hb <;> simp [isSmall, isGreat, isDig, hn] at h
    · rintro rfl
      rw [wordL_cons] at h
      have hn : signL (35 :: r) = none := by simp [signL, signs, List.isPrefixOf]
      simp [isSmall, isGreat, isDig, hn] at h
theorem lexes_lexF {p : Nat} {l : List UInt8} {ts : List Tok} (h : Lexes p l ts) : ∀ f, l.length ≤ f → lexF f p l = .inl ts := by
  induction h with
  | nil p => intro f _; cases f <;> rfl
  | blank hb _ ih =>
    intro f hf
    obtain ⟨f, rfl⟩ : ∃ m, f = m + 1 := ⟨f - 1, by simp at hf; omega⟩
    unfold lexF
    rw [if_pos hb]
    exact ih f (by simpa using hf)
  | @comment p r ts _ ih =>
    intro f hf
    obtain ⟨f, rfl⟩ : ∃ m, f = m + 1 := ⟨f - 1, by simp at hf; omega⟩
    unfold lexF
    rw [if_neg (by decide), if_pos rfl]
    have := comL_pos r
    exact ih f (by simp only [List.length_drop]; simp only [List.length_cons] at hf ⊢; omega)
  | @word p l ts k lo hi n hw _ ih =>
    intro f hf
    obtain ⟨b, r, rfl, hb, h35⟩ := wordL_head hw
    obtain ⟨f, rfl⟩ : ∃ m, f = m + 1 := ⟨f - 1, by simp at hf; omega⟩
    have hok := wordL_ok hw
    unfold lexF
    rw [hb, if_neg (by decide), if_neg h35, hw]
    simp only
    rw [ih f (by simp only [List.length_drop]; simp only [List.length_cons] at hf ⊢; omega)]

/-! ### what two texts come to -/
theorem idxL_none_append (l b : List UInt8) (c : UInt8) (h : idxL l c = none) : idxL (l ++ c :: b) c = some l.length := by
  induction l with
  | nil => rw [List.nil_append, idxL_cons, if_pos (by simp)]; rfl
  | cons x r ih =>
    rw [idxL_cons] at h
    by_cases hx : (x == c) = true
    · rw [if_pos hx] at h; cases h
    · rw [if_neg hx] at h
      rw [List.cons_append, idxL_cons, if_neg hx, ih (by simpa using h)]
      rfl
theorem comL_append (l b : List UInt8) : comL (l ++ 10 :: b) = comL l := by
  unfold comL
  cases h : idxL l 10 with
  | none => rw [idxL_none_append l b 10 h]
  | some n => rw [idxL_ext l 10 (10 :: b) n h]
theorem Lexes.cast {p q : Nat} {l : List UInt8} {ts : List Tok} (h : Lexes p l ts) (e : p = q) : Lexes q l ts := e ▸ h
def Tok.shift (d : Nat) (t : Tok) : Tok := { t with at_ := t.at_ + d }
theorem Lexes.shift {p : Nat} {l : List UInt8} {ts : List Tok} (h : Lexes p l ts) (d : Nat) : Lexes (p + d) l (ts.map (Tok.shift d)) := by
  induction h with
  | nil p => exact .nil _
  | blank hb _ ih => exact .blank hb (ih.cast (by omega))
  | comment _ ih => exact .comment (ih.cast (by omega))
  | word hw _ ih => exact .word hw (ih.cast (by omega))
theorem Lexes.append {p : Nat} {a : List UInt8} {ts : List Tok} (h : Lexes p a ts) {b : List UInt8} {us : List Tok} (k : Lexes (p + a.length + 1) b us) : Lexes p (a ++ 10 :: b) (ts ++ us) := by
  induction h with
  | nil p => exact .blank (by decide) (k.cast (by simp))
  | blank hb _ ih => exact .blank hb (ih (k.cast (by simp only [List.length_cons]; omega)))
  | @comment p r ts _ ih =>
    have hle := comL_le (35 :: r)
    simp only [List.length_cons] at hle
    refine .comment (r := r ++ 10 :: b) ?_
    rw [← List.cons_append, comL_append, List.drop_append_of_le_length (by simpa using hle)]
    exact ih (k.cast (by simp only [List.length_drop, List.length_cons]; omega))
  | @word p l ts c lo hi n hw _ ih =>
    have hok := wordL_ok hw
    rw [List.cons_append]
    have e : (l.take hi).drop lo = ((l ++ 10 :: b).take hi).drop lo := by rw [List.take_append_of_le_length (by omega)]
    rw [e]
    refine .word (wordL_ext b (by decide) hw) ?_
    rw [List.drop_append_of_le_length (by omega)]
    exact ih (k.cast (by simp only [List.length_drop]; omega))
theorem Lexes.one {l : List UInt8} {k lo hi n : Nat} (p : Nat) (h : wordL l = some (k, lo, hi, n)) : Lexes p (l.take n) [⟨k, (l.take hi).drop lo, p⟩] := by
  have hok := wordL_ok h
  have e : (l.take hi).drop lo = ((l.take n).take hi).drop lo := by rw [List.take_take, Nat.min_eq_left (by omega)]
  rw [e]
  refine .word (wordL_cut h) ?_
  have : (l.take n).drop n = [] := by rw [List.drop_eq_nil_iff, List.length_take]; omega
  rw [this]
  exact .nil _
/-- The words, a blank behind each. -/
def joined : List Tok → List UInt8
  | [] => []
  | t :: ts => textOf t.kind t.text ++ 32 :: joined ts
theorem joined_append (a b : List Tok) : joined (a ++ b) = joined a ++ joined b := by
  induction a with
  | nil => rfl
  | cons t a ih => simp [joined, ih]
/-- The same words, wherever they stand. -/
def Alike (a b : List Tok) : Prop := a.map (fun t => (t.kind, t.text)) = b.map (fun t => (t.kind, t.text))
theorem Lexes.joined {p : Nat} {l : List UInt8} {ts : List Tok} (h : Lexes p l ts) : ∀ q, ∃ us, Lexes q (joined ts) us ∧ Alike us ts := by
  induction h with
  | nil p => intro q; exact ⟨[], .nil q, rfl⟩
  | blank hb _ ih => exact ih
  | comment _ ih => exact ih
  | @word p l ts c lo hi n hw _ ih =>
    intro q
    obtain ⟨us, hu, ha⟩ := ih (q + n + 1)
    have hok := wordL_ok hw
    refine ⟨⟨c, (l.take hi).drop lo, q⟩ :: us, ?_, ?_⟩
    · show Lexes q (textOf c ((l.take hi).drop lo) ++ 32 :: Lex.joined ts) _
      rw [textOf_word hw]
      have hx := wordL_ext (Lex.joined ts) (c := 32) (by decide) (wordL_cut hw)
      have hln : (l.take n).length = n := by rw [List.length_take]; omega
      have e : (l.take hi).drop lo = ((l.take n ++ 32 :: Lex.joined ts).take hi).drop lo := by
        rw [List.take_append_of_le_length (by omega), List.take_take, Nat.min_eq_left (by omega)]
      rw [e]
      refine .word hx ?_
      have : (l.take n ++ 32 :: Lex.joined ts).drop n = 32 :: Lex.joined ts := by
        rw [List.drop_append_of_le_length (by omega)]
        have : (l.take n).drop n = [] := by rw [List.drop_eq_nil_iff]; omega
        rw [this]
        rfl
      rw [this]
      exact .blank (by decide) hu
    · unfold Alike at ha ⊢
      simp only [List.map_cons, ha]
theorem joined_len {p : Nat} {l : List UInt8} {ts : List Tok} (h : Lexes p l ts) : (Lex.joined ts).length ≤ 2 * l.length ∧ ts.length ≤ l.length := by
  induction h with
  | nil p => exact ⟨Nat.le_refl _, Nat.le_refl _⟩
  | blank hb _ ih => simp only [List.length_cons]; omega
  | comment _ ih => rename_i p r ts _; simp only [List.length_drop] at ih; omega
  | @word p l ts c lo hi n hw _ ih =>
    have hok := wordL_ok hw
    have hln : (l.take n).length = n := by rw [List.length_take]; omega
    simp only [Lex.joined, textOf_word hw, List.length_append, List.length_cons, hln]
    simp only [List.length_drop] at ih
    omega
/-- A comment without a line's end. -/
theorem lexes_comment (p : Nat) (c : List UInt8) (h : ∀ b ∈ c, b ≠ 10) : Lexes p (35 :: c) [] := by
  have e : comL (35 :: c) = (35 :: c).length := by
    unfold comL
    have : idxL (35 :: c) 10 = none := by
      unfold idxL
      rw [List.findIdx?_eq_none_iff]
      intro b hb
      rcases List.mem_cons.1 hb with rfl | hb
      · decide
      · simpa using h b hb
    rw [this]
  refine .comment ?_
  rw [e, List.drop_length]
  exact .nil _
end Go.Proofs.YtjjhopcbipedaaaDoor.Lex
