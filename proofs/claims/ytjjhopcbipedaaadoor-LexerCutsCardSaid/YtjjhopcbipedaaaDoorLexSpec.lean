/- The lexer's words over lists of bytes: what a name, a part, a word at a text's beginning is; no program in sight. -/
import Derived.Lib.Bytealg
import Derived.Lib.IndexBytes
import Derived.Lib.Split
import Derived.Laws.Strings
namespace Go.Proofs.YtjjhopcbipedaaaDoor.Lex

def isSmall (b : UInt8) : Bool := 97 ≤ b && b ≤ 122
def isGreat (b : UInt8) : Bool := 65 ≤ b && b ≤ 90
def isDig (b : UInt8) : Bool := 48 ≤ b && b ≤ 57
def isTail (b : UInt8) : Bool := b == 95 || (97 ≤ b && b ≤ 122) || (48 ≤ b && b ≤ 57)
def isBlank (b : UInt8) : Bool := b == 9 || b == 10 || b == 13 || b == 32
def runL (l : List UInt8) : Nat := (l.takeWhile isTail).length
def digL (l : List UInt8) : Nat := (l.takeWhile isDig).length
def partL : List UInt8 → Nat
  | [] => 0
  | b :: r => if isSmall b then runL (b :: r) else 0
def colons : List UInt8 → Bool
  | 58 :: 58 :: _ => true
  | _ => false
def nameGo : Nat → List UInt8 → Nat → Nat
  | 0, _, n => n
  | f + 1, l, n => if 0 < n ∧ colons (l.drop n) = true then (if partL (l.drop (n + 2)) = 0 then n else nameGo f l (n + 2 + partL (l.drop (n + 2)))) else n
def nameL (l : List UInt8) : Nat := nameGo l.length l (partL l)
def idxL (l : List UInt8) (c : UInt8) : Option Nat := l.findIdx? (· == c)
def signs : List (List UInt8) := [[61, 62], [61, 61], [33, 61], [45, 62], [126, 62], [123], [125], [40], [41], [91], [93], [44], [58], [61], [33]]
def signL (l : List UInt8) : Option (List UInt8) := signs.find? (fun x => x.isPrefixOf l)
/-- A word at a text's beginning: its kind, where what it says begins and ends, how long it is. -/
def wordL : List UInt8 → Option (Nat × Nat × Nat × Nat)
  | [] => none
  | b :: r =>
    if isSmall b then some (1, 0, nameL (b :: r), nameL (b :: r))
    else if isGreat b then some (2, 0, 1 + runL r, 1 + runL r)
    else if isDig b then (if 1 + digL r > 9 then none else some (6, 0, 1 + digL r, 1 + digL r))
    else if b = 39 ∨ b = 34 then (match idxL r b with
      | none => none
      | some i => some (if b = 34 then 5 else 4, 1, 1 + i, i + 2))
    else if b = 36 then (if partL r = 0 then none else some (3, 1, 1 + partL r, 1 + partL r))
    else match signL (b :: r) with
      | none => none
      | some x => some (7, 0, x.length, x.length)

theorem runL_le (l : List UInt8) : runL l ≤ l.length := (List.takeWhile_prefix isTail).length_le
theorem digL_le (l : List UInt8) : digL l ≤ l.length := (List.takeWhile_prefix isDig).length_le
theorem takeWhile_here {p : UInt8 → Bool} : ∀ (l : List UInt8) (m : Nat), (∀ j, j < m → ∃ c, l[j]? = some c ∧ p c = true) → m ≤ l.length → (∀ d, l[m]? = some d → p d = false) → (l.takeWhile p).length = m
  | [], m, _, h, _ => by simp at h; simp [h]
  | b :: r, 0, _, _, h => by rw [List.takeWhile_cons, h b rfl]; rfl
  | b :: r, m + 1, h1, h2, h3 => by
    obtain ⟨c, hc, hp⟩ := h1 0 (by omega)
    simp only [List.getElem?_cons_zero, Option.some.injEq] at hc
    subst hc
    rw [List.takeWhile_cons, if_pos hp, List.length_cons, takeWhile_here r m (fun j hj => by simpa using h1 (j + 1) (by omega)) (by simpa using h2) (fun d hd => h3 d (by simpa using hd))]
theorem digL_here (l : List UInt8) (m : Nat) (h1 : ∀ j, j < m → ∃ c, l[j]? = some c ∧ isDig c = true) (h2 : m ≤ l.length) (h3 : ∀ d, l[m]? = some d → isDig d = false) : digL l = m := takeWhile_here l m h1 h2 h3
theorem partL_cons (b : UInt8) (r : List UInt8) : partL (b :: r) = if isSmall b then runL (b :: r) else 0 := rfl
theorem partL_le (l : List UInt8) : partL l ≤ l.length := by
  cases l with
  | nil => exact Nat.le_refl _
  | cons b r =>
    rw [partL_cons]
    split
    · exact runL_le _
    · exact Nat.zero_le _
theorem nameGo_le : ∀ (f : Nat) (l : List UInt8) (n : Nat), n ≤ l.length → nameGo f l n ≤ l.length
  | 0, _, _, h => h
  | f + 1, l, n, h => by
    unfold nameGo
    split
    · split
      · exact h
      · rename_i hne
        have := partL_le (l.drop (n + 2))
        simp only [List.length_drop] at this
        exact nameGo_le f l _ (by omega)
    · exact h
theorem nameGo_ge : ∀ (f : Nat) (l : List UInt8) (n : Nat), n ≤ nameGo f l n
  | 0, _, _ => Nat.le_refl _
  | f + 1, l, n => by
    unfold nameGo
    split
    · split
      · exact Nat.le_refl _
      · exact Nat.le_trans (by omega) (nameGo_ge f l _)
    · exact Nat.le_refl _
theorem nameL_le (l : List UInt8) : nameL l ≤ l.length := nameGo_le _ _ _ (partL_le l)
theorem small_tail {b : UInt8} (h : isSmall b = true) : isTail b = true := by
  unfold isSmall at h
  unfold isTail
  rw [h]
  simp
theorem partL_pos {b : UInt8} {r : List UInt8} (h : isSmall b = true) : 0 < partL (b :: r) := by
  rw [partL_cons, if_pos h, runL, List.takeWhile_cons, if_pos (small_tail h)]
  simp
theorem nameL_pos {b : UInt8} {r : List UInt8} (h : isSmall b = true) : 0 < nameL (b :: r) := Nat.lt_of_lt_of_le (partL_pos h) (nameGo_ge _ _ _)
theorem idxL_lt {l : List UInt8} {c : UInt8} {i : Nat} (h : idxL l c = some i) : i < l.length := by
  unfold idxL at h
  exact (List.findIdx?_eq_some_iff_getElem.1 h).1
theorem indexByte_idx (l : List UInt8) (c : UInt8) : Go.Lib.indexByte l c = match idxL l c with | none => -1 | some i => (i : Int) := by
  induction l with
  | nil => rfl
  | cons b l ih =>
    unfold Go.Lib.indexByte idxL
    rw [List.findIdx?_cons]
    by_cases h : (b == c) = true
    · simp [h]
    · have h' : (b == c) = false := by simpa using h
      simp only [h', Bool.false_eq_true, if_false]
      rw [ih]
      unfold idxL
      cases l.findIdx? (· == c) with
      | none => simp
      | some i =>
        have : ¬ ((i : Int) = -1) := by omega
        simp [this]
theorem signL_spec {l x : List UInt8} (h : signL l = some x) : x ∈ signs ∧ x.isPrefixOf l = true := by
  unfold signL at h
  exact ⟨List.mem_of_find?_eq_some h, by simpa using List.find?_some h⟩
theorem sign_len {x : List UInt8} (h : x ∈ signs) : 1 ≤ x.length ∧ x.length ≤ 2 := by
  have : ∀ x ∈ signs, 1 ≤ x.length ∧ x.length ≤ 2 := by decide
  exact this x h
theorem wordL_cons (b : UInt8) (r : List UInt8) : wordL (b :: r) =
    if isSmall b then some (1, 0, nameL (b :: r), nameL (b :: r))
    else if isGreat b then some (2, 0, 1 + runL r, 1 + runL r)
    else if isDig b then (if 1 + digL r > 9 then none else some (6, 0, 1 + digL r, 1 + digL r))
    else if b = 39 ∨ b = 34 then (match idxL r b with
      | none => none
      | some i => some (if b = 34 then 5 else 4, 1, 1 + i, i + 2))
    else if b = 36 then (if partL r = 0 then none else some (3, 1, 1 + partL r, 1 + partL r))
    else match signL (b :: r) with
      | none => none
      | some x => some (7, 0, x.length, x.length) := rfl
theorem wordL_ok {l : List UInt8} {k lo hi n : Nat} (h : wordL l = some (k, lo, hi, n)) : lo ≤ hi ∧ hi ≤ n ∧ n ≤ l.length ∧ 1 ≤ n := by
  cases l with
  | nil => simp [wordL] at h
  | cons b r =>
    rw [wordL_cons] at h
    split at h
    · rename_i hs
      simp only [Option.some.injEq, Prod.mk.injEq] at h
      obtain ⟨rfl, rfl, rfl, rfl⟩ := h
      exact ⟨Nat.zero_le _, Nat.le_refl _, nameL_le _, nameL_pos hs⟩
    · split at h
      · simp only [Option.some.injEq, Prod.mk.injEq] at h
        obtain ⟨rfl, rfl, rfl, rfl⟩ := h
        have := runL_le r
        exact ⟨Nat.zero_le _, Nat.le_refl _, by simp; omega, by omega⟩
      · split at h
        · split at h
          · cases h
          · simp only [Option.some.injEq, Prod.mk.injEq] at h
            obtain ⟨rfl, rfl, rfl, rfl⟩ := h
            have := digL_le r
            exact ⟨Nat.zero_le _, Nat.le_refl _, by simp; omega, by omega⟩
        · split at h
          · split at h
            · cases h
            · rename_i i hi
              simp only [Option.some.injEq, Prod.mk.injEq] at h
              obtain ⟨rfl, rfl, rfl, rfl⟩ := h
              have := idxL_lt hi
              exact ⟨by omega, by omega, by simp; omega, by omega⟩
          · split at h
            · split at h
              · cases h
              · simp only [Option.some.injEq, Prod.mk.injEq] at h
                obtain ⟨rfl, rfl, rfl, rfl⟩ := h
                have := partL_le r
                exact ⟨by omega, by omega, by simp; omega, by omega⟩
            · split at h
              · cases h
              · rename_i x hx
                simp only [Option.some.injEq, Prod.mk.injEq] at h
                obtain ⟨rfl, rfl, rfl, rfl⟩ := h
                obtain ⟨h1, h2⟩ := signL_spec hx
                obtain ⟨h3, h4⟩ := sign_len h1
                have := (List.isPrefixOf_iff_prefix.1 h2).length_le
                exact ⟨by omega, by omega, this, by omega⟩
end Go.Proofs.YtjjhopcbipedaaaDoor.Lex
