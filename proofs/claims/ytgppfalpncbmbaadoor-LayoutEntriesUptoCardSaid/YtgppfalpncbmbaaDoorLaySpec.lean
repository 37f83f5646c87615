/- What chapter 3's names and paths are: plain lists of bytes, no program in sight. -/
import Derived.Lib.SlTrimSet
import Derived.Lib.Bytealg
namespace Go.Proofs.YtgppfalpncbmbaaDoor.Lay

def letter (b : UInt8) : Bool := (decide (65 ≤ b) && decide (b ≤ 90)) || (decide (97 ≤ b) && decide (b ≤ 122)) || (decide (48 ≤ b) && decide (b ≤ 57)) || decide (b = 46) || decide (b = 95) || decide (b = 45)
def letters : List UInt8 := [65, 66, 67, 68, 69, 70, 71, 72, 73, 74, 75, 76, 77, 78, 79, 80, 81, 82, 83, 84, 85, 86, 87, 88, 89, 90, 97, 98, 99, 100, 101, 102, 103, 104, 105, 106, 107, 108, 109, 110, 111, 112, 113, 114, 115, 116, 117, 118, 119, 120, 121, 122, 48, 49, 50, 51, 52, 53, 54, 55, 56, 57, 46, 95, 45]
theorem letter_mem : ∀ b : UInt8, letters.contains b = letter b := by
  have h : ∀ n : Fin 256, letters.contains (UInt8.ofNat n.1) = letter (UInt8.ofNat n.1) := by decide +kernel
  intro b
  have := h ⟨b.toNat, b.toNat_lt⟩
  simpa using this
/-- A name. -/
def nameOk (l : List UInt8) : Bool := !l.isEmpty && decide (l.length ≤ 28) && l != [46] && l != [46, 46] && l.all letter
theorem letter_47 : letter 47 = false := by decide
theorem name_no47 {l : List UInt8} (h : nameOk l = true) : ∀ b ∈ l, b ≠ 47 := by
  intro b hb e
  unfold nameOk at h
  simp only [Bool.and_eq_true, List.all_eq_true] at h
  have := h.2 b hb
  rw [e, letter_47] at this
  cases this

/-- A text's parts, at each stroke. -/
def splitL : List UInt8 → List (List UInt8)
  | [] => [[]]
  | b :: r => if b = 47 then [] :: splitL r else match splitL r with
    | [] => [[b]]
    | p :: ps => (b :: p) :: ps
theorem splitL_cons (b : UInt8) (r : List UInt8) : splitL (b :: r) = if b = 47 then [] :: splitL r else match splitL r with
    | [] => [[b]]
    | p :: ps => (b :: p) :: ps := rfl
theorem splitL_ne : ∀ l, ∃ p ps, splitL l = p :: ps := by
  intro l
  cases l with
  | nil => exact ⟨[], [], rfl⟩
  | cons b r =>
    unfold splitL
    by_cases h : b = 47
    · rw [if_pos h]; exact ⟨_, _, rfl⟩
    · rw [if_neg h]
      cases splitL r with
      | nil => exact ⟨_, _, rfl⟩
      | cons p ps => exact ⟨_, _, rfl⟩
theorem splitL_length : ∀ l, (splitL l).length = l.count 47 + 1 := by
  intro l
  induction l with
  | nil => rfl
  | cons b r ih =>
    obtain ⟨p, ps, h⟩ := splitL_ne r
    unfold splitL
    rw [h] at ih ⊢
    by_cases hb : b = 47
    · rw [if_pos hb, hb]; simpa using ih
    · rw [if_neg hb, List.count_cons_of_ne hb]; simpa using ih
/-- What is ahead of the first stroke is the first part. -/
theorem splitL_find : ∀ (l : List UInt8) (j : Nat), Lib.indexByte l 47 = (j : Int) → splitL l = l.take j :: splitL (l.drop (j + 1)) ∧ j < l.length ∧ l.count 47 = (l.drop (j + 1)).count 47 + 1 := by
  intro l
  induction l with
  | nil => intro j h; simp [Lib.indexByte] at h
  | cons b r ih =>
    intro j h
    unfold Lib.indexByte at h
    rw [splitL_cons]
    by_cases hb : b = 47
    · rw [if_pos (by simpa using hb)] at h
      obtain rfl : j = 0 := by omega
      rw [if_pos hb, hb]
      simp
    · rw [if_neg (by simpa using hb)] at h
      have hge := Lib.indexByte_ge r 47
      split at h
      · omega
      · rename_i hne
        have hne' : Lib.indexByte r 47 ≠ -1 := by simpa using hne
        obtain ⟨i, rfl⟩ : ∃ i, j = i + 1 := ⟨j - 1, by omega⟩
        obtain ⟨e1, e2, e3⟩ := ih i (by omega)
        rw [if_neg hb, e1, List.count_cons_of_ne hb]
        simp only [List.take_succ_cons, List.drop_succ_cons, List.length_cons]
        exact ⟨trivial, by omega, e3⟩
theorem splitL_none : ∀ (l : List UInt8), Lib.indexByte l 47 < 0 → splitL l = [l] ∧ l.count 47 = 0 := by
  intro l
  induction l with
  | nil => intro _; exact ⟨rfl, rfl⟩
  | cons b r ih =>
    intro h
    unfold Lib.indexByte at h
    unfold splitL
    by_cases hb : b = 47
    · rw [if_pos (by simpa using hb)] at h; omega
    · rw [if_neg (by simpa using hb)] at h
      have hge := Lib.indexByte_ge r 47
      split at h
      · rename_i he
        have he' : Lib.indexByte r 47 = -1 := by simpa using he
        obtain ⟨e1, e2⟩ := ih (by omega)
        rw [if_neg hb, e1, List.count_cons_of_ne hb]
        exact ⟨rfl, e2⟩
      · omega
/-- The parts, a stroke ahead of each. -/
def joinL : List (List UInt8) → List UInt8
  | [] => []
  | p :: r => 47 :: (p ++ joinL r)
theorem joinL_split : ∀ l, joinL (splitL l) = 47 :: l := by
  intro l
  induction l with
  | nil => rfl
  | cons b r ih =>
    obtain ⟨p, ps, h⟩ := splitL_ne r
    unfold splitL
    rw [h] at ih ⊢
    by_cases hb : b = 47
    · rw [if_pos hb]; simp only [joinL] at ih ⊢; rw [ih, hb]; rfl
    · rw [if_neg hb]
      simp only [joinL, List.cons_append, List.cons.injEq, true_and] at ih ⊢
      exact ih
theorem joinL_append : ∀ a b, joinL (a ++ b) = joinL a ++ joinL b := by
  intro a b
  induction a with
  | nil => rfl
  | cons p r ih => simp only [List.cons_append, joinL, ih, List.append_assoc]
/-- Parts without a stroke, joined, are split into these. -/
theorem split_join : ∀ (ps : List (List UInt8)) (p : List UInt8), (∀ x ∈ p :: ps, ∀ b ∈ x, b ≠ 47) → splitL (p ++ joinL ps) = p :: ps := by
  intro ps
  induction ps with
  | nil =>
    intro p h
    have hp := h p (by simp)
    clear h
    simp only [joinL, List.append_nil]
    induction p with
    | nil => rfl
    | cons b r ih =>
      unfold splitL
      rw [if_neg (hp b (by simp)), ih (fun x hx => hp x (by simp [hx]))]
  | cons q qs ih =>
    intro p h
    have hp := h p (by simp)
    have hq := ih q (fun x hx => h x (by simp only [List.mem_cons] at hx ⊢; exact .inr hx))
    clear h ih
    induction p with
    | nil =>
      show splitL (47 :: (q ++ joinL qs)) = _
      unfold splitL
      rw [if_pos rfl, hq]
    | cons b r ih =>
      rw [List.cons_append]
      unfold splitL
      rw [if_neg (hp b (by simp)), ih (fun x hx => hp x (by simp [hx]))]

/-- A path's names, and the sign of a refusal. -/
def pathF (l : List UInt8) : List (List UInt8) × Int :=
  if l = [47] then ([], 0) else match l with
    | 47 :: r => if (splitL r).all nameOk = true ∧ l.length ≤ 120 ∧ (splitL r).length ≤ 8 then (splitL r, 0) else ([], 40)
    | _ => ([], 40)
theorem pathF_stroke (r : List UInt8) (h : r ≠ []) : pathF (47 :: r) = if (splitL r).all nameOk = true ∧ r.length + 1 ≤ 120 ∧ (splitL r).length ≤ 8 then (splitL r, 0) else ([], 40) := by
  unfold pathF
  rw [if_neg (by simpa using h)]
  rfl
theorem pathF_no {l : List UInt8} (h : ∀ r, l ≠ 47 :: r) : pathF l = ([], 40) := by
  unfold pathF
  rw [if_neg (fun e => h [] e)]
  split
  · rename_i r; exact absurd rfl (h r)
  · rfl
theorem pathF_long {l : List UInt8} (h : 120 < l.length) : pathF l = ([], 40) := by
  unfold pathF
  rw [if_neg (by intro e; rw [e] at h; simp at h)]
  split
  · rw [if_neg (by omega)]
  · rfl

/-- The other way to split: the first part is begun. -/
def goR (acc : List (List UInt8)) (cur : List UInt8) : List UInt8 → List (List UInt8) × Int
  | [] => if nameOk cur = true then (if (acc ++ [cur]).length > 8 then ([], 40) else (acc ++ [cur], 0)) else ([], 40)
  | b :: r => if b = 47 then (if nameOk cur = true then goR (acc ++ [cur]) [] r else ([], 40)) else goR acc (cur ++ [b]) r
theorem goR_eq : ∀ (l : List UInt8) (acc : List (List UInt8)) (cur p : List UInt8) (ps : List (List UInt8)), splitL l = p :: ps →
    goR acc cur l = if ((cur ++ p) :: ps).all nameOk = true ∧ (acc ++ (cur ++ p) :: ps).length ≤ 8 then (acc ++ (cur ++ p) :: ps, 0) else ([], 40) := by
  intro l
  induction l with
  | nil =>
    intro acc cur p ps h
    simp only [splitL, List.cons.injEq] at h
    obtain ⟨rfl, rfl⟩ := h
    simp only [goR, List.append_nil, List.all_cons, List.all_nil, Bool.and_true]
    by_cases h1 : nameOk cur = true
    · by_cases h2 : (acc ++ [cur]).length > 8
      · rw [if_pos h1, if_pos h2, if_neg (by omega)]
      · rw [if_pos h1, if_neg h2, if_pos ⟨h1, by omega⟩]
    · rw [if_neg h1, if_neg (fun h => h1 h.1)]
  | cons b r ih =>
    intro acc cur p ps h
    unfold splitL at h
    unfold goR
    by_cases hb : b = 47
    · rw [if_pos hb] at h ⊢
      simp only [List.cons.injEq] at h
      obtain ⟨rfl, h⟩ := h
      obtain ⟨q, qs, hq⟩ := splitL_ne r
      rw [hq] at h
      subst h
      rw [ih (acc ++ [cur]) [] q qs hq]
      simp only [List.append_nil, List.nil_append, List.append_assoc, List.cons_append, List.all_cons, Bool.and_eq_true]
      by_cases h1 : nameOk cur = true
      · rw [if_pos h1]; simp only [h1, true_and]
      · rw [if_neg h1, if_neg (fun h => h1 h.1.1)]
    · rw [if_neg hb] at h ⊢
      obtain ⟨q, qs, hq⟩ := splitL_ne r
      rw [hq] at h
      simp only [List.cons.injEq] at h
      obtain ⟨rfl, rfl⟩ := h
      rw [ih acc (cur ++ [b]) q qs hq]
      simp only [List.append_assoc, List.singleton_append]
theorem pathF_join {l : List UInt8} {ps : List (List UInt8)} (h : pathF l = (ps, 0)) : joinL ps = l ∨ l = [47] ∧ ps = [] := by
  unfold pathF at h
  split at h
  · rename_i h1
    simp only [Prod.mk.injEq, and_true] at h
    exact .inr ⟨h1, h.symm⟩
  · split at h
    · split at h
      · simp only [Prod.mk.injEq, and_true] at h
        rw [← h, joinL_split]; exact .inl rfl
      · simp at h
    · simp at h
theorem pathF_names (l : List UInt8) : ∀ p ∈ (pathF l).1, nameOk p = true := by
  unfold pathF
  split
  · intro p hp; cases hp
  · split
    · split
      · rename_i h
        intro p hp
        exact List.all_eq_true.1 h.1 p hp
      · intro p hp; cases hp
    · intro p hp; cases hp
/-- Names, a stroke ahead of each, are a path. -/
theorem path_of_names {ps : List (List UInt8)} (h0 : ps ≠ []) (h1 : ∀ p ∈ ps, nameOk p = true) (h2 : ps.length ≤ 8) (h3 : (joinL ps).length ≤ 120) : pathF (joinL ps) = (ps, 0) := by
  cases ps with
  | nil => exact absurd rfl h0
  | cons p r =>
    have hs := split_join r p (fun x hx => name_no47 (h1 x hx))
    have hp : p ≠ [] := by
      intro e
      have := h1 p (by simp)
      rw [e] at this
      simp [nameOk] at this
    have e0 : joinL (p :: r) = 47 :: (p ++ joinL r) := rfl
    rw [e0] at h3 ⊢
    unfold pathF
    rw [if_neg (by
      intro e
      simp only [List.cons.injEq, true_and, List.append_eq_nil_iff] at e
      exact hp e.1)]
    show (if (splitL (p ++ joinL r)).all nameOk = true ∧ (47 :: (p ++ joinL r)).length ≤ 120 ∧ (splitL (p ++ joinL r)).length ≤ 8 then (splitL (p ++ joinL r), (0 : Int)) else ([], 40)) = _
    rw [hs, if_pos ⟨List.all_eq_true.2 h1, h3, h2⟩]

theorem all_dropWhile {p : UInt8 → Bool} : ∀ {l : List UInt8}, (l.dropWhile p).all p = true → l.all p = true := by
  intro l
  induction l with
  | nil => intro _; rfl
  | cons b r ih =>
    intro h
    cases hb : p b with
    | true =>
      rw [List.dropWhile_cons, if_pos hb] at h
      simp only [List.all_cons, hb, Bool.true_and]
      exact ih h
    | false =>
      rw [List.dropWhile_cons, if_neg (by simp [hb])] at h
      exact h
theorem all_of_dropWhile {p : UInt8 → Bool} : ∀ {l : List UInt8}, l.dropWhile p = [] ↔ l.all p = true := by
  intro l
  induction l with
  | nil => simp
  | cons b r ih =>
    cases hb : p b with
    | true => rw [List.dropWhile_cons, if_pos hb, ih]; simp [hb]
    | false => rw [List.dropWhile_cons, if_neg (by simp [hb])]; simp [hb]
theorem trim_nil (l : List UInt8) : (Lib.trimS l letters = []) ↔ l.all letter = true := by
  have he : (fun b => letters.contains b) = letter := funext letter_mem
  unfold Lib.trimS Lib.trimRightS Lib.trimLeftS
  rw [show (letters.contains · : UInt8 → Bool) = letter from he, all_of_dropWhile, List.all_reverse]
  constructor
  · intro h
    have := all_dropWhile h
    rwa [List.all_reverse] at this
  · intro h
    rw [← List.all_reverse, ← all_of_dropWhile] at h
    rw [h]
    rfl
end Go.Proofs.YtgppfalpncbmbaaDoor.Lay
