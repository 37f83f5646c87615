/- LexerCuts' plain law: any text is cut into words, or refused, as the document says; names, types and keywords are told from other texts. -/
import Derived.Test.YtjjhopcbipedaaaDoorLexReach2
namespace Go.Proofs.YtjjhopcbipedaaaDoor.PX
open Go.RowKit Go.Proofs.YtjjhopcbipedaaaDoorW.PrintWords Go.Proofs.YtjjhopcbipedaaaDoorW.PrintLast Go.Proofs.YtjjhopcbipedaaaDoorW.PrintMore
open Lex (wordL lexF Lexes Tok comL idxL isBlank textOf isSmall isGreat isDig isTail partL nameL nameGo runL digL colons signL signs)

theorem eq_mk {X : ByteArray} {l : List UInt8} (h : X.data.toList = l) : X = ⟨l.toArray⟩ := Go.WideShapes.bytes_inj (by rw [h])
theorem all_tw (p : UInt8 → Bool) : ∀ (l : List UInt8) (m : Nat), m ≤ (l.takeWhile p).length → (l.take m).all p = true
  | [], m, _ => by simp
  | b :: r, 0, _ => by simp
  | b :: r, m + 1, h => by
    rw [List.takeWhile_cons] at h
    split at h
    · rename_i hp
      rw [List.take_succ_cons, List.all_cons, hp, Bool.true_and]
      exact all_tw p r m (by simpa using h)
    · simp at h
theorem sign_heads : ∀ x ∈ signs, ∃ b r, x = b :: r ∧ isSmall b = false ∧ isGreat b = false ∧ isDig b = false ∧ b ≠ 36 ∧ b ≠ 39 ∧ b ≠ 34 := by
  intro x hx
  simp only [signs, List.mem_cons, List.not_mem_nil, or_false] at hx
  rcases hx with rfl | rfl | rfl | rfl | rfl | rfl | rfl | rfl | rfl | rfl | rfl | rfl | rfl | rfl | rfl <;> exact ⟨_, _, rfl, by decide, by decide, by decide, by decide, by decide, by decide⟩
theorem ev_word_num (X : ByteArray) (hz : X.size ≤ 65536) (b : UInt8) (r : List UInt8) (hd : X.data.toList = b :: r) (hb : isDig b = true) (hr : r.all isDig = true) : Ev (fun k => majordomoref11_word.f k X) (6, X, 0) := by
  obtain ⟨c1, c2, c3, c4, c5⟩ := (class_of b).2.2 hb
  refine ev_word_on X hz b r hd c1 c2 ?_
  rw [decide_eq_false c3, Bool.false_and]
  refine ev_word_noq X b r hd c4 c5 ?_
  have hn : X.data.toList ∉ signs := by
    intro hm
    obtain ⟨b', r', he, -, -, h3, -⟩ := sign_heads _ hm
    rw [hd] at he
    simp only [List.cons.injEq] at he
    rw [← he.1, hb] at h3
    cases h3
  have := ev_word_j2 X hz hn
  have hsz : 0 < X.size := by rw [size_list, hd]; simp
  rw [hd, List.all_cons, hb, hr, decide_eq_true hsz] at this
  exact this
theorem ev_word_not (X : ByteArray) (hz : X.size ≤ 65536) (b : UInt8) (r : List UInt8) (hd : X.data.toList = b :: r) (h1 : isSmall b = false) (h2 : isGreat b = false) (h3 : isDig b = false) (h4 : b ≠ 36) (h5 : b ≠ 39) (h6 : b ≠ 34) (hn : X.data.toList ∉ signs) :
    Ev (fun k => majordomoref11_word.f k X) (0, ⟨#[]⟩, 0) := by
  refine ev_word_on X hz b r hd h1 h2 ?_
  rw [decide_eq_false h4, Bool.false_and]
  refine ev_word_noq X b r hd h5 h6 ?_
  have := ev_word_j2 X hz hn
  rw [hd, List.all_cons, h3, Bool.false_and, Bool.false_and] at this
  exact this
theorem bt_at_list {X : ByteArray} {i : Nat} {c : UInt8} (h : X.data.toList[i]? = some c) : bt X (i : Int) = (c.toNat : Int) := by
  have hlt := (List.getElem?_eq_some_iff.1 h).1
  refine bt_drop (r := X.data.toList.drop (i + 1)) ?_
  rw [List.drop_eq_getElem_cons hlt]
  rw [List.getElem?_eq_getElem hlt, Option.some.injEq] at h
  rw [h]
theorem ev_word_ok {l : List UInt8} {k lo hi n : Nat} (h : wordL l = some (k, lo, hi, n)) (X : ByteArray) (hz : X.size ≤ 65536) (hX : X.data.toList = l.take n) :
    Ev (fun m => majordomoref11_word.f m X) ((k : Int), ⟨((l.take hi).drop lo).toArray⟩, 0) := by
  cases l with
  | nil => simp [Lex.wordL] at h
  | cons b r =>
    have hok := Lex.wordL_ok h
    obtain ⟨m, rfl⟩ : ∃ m, n = m + 1 := ⟨n - 1, by omega⟩
    have hXc : X.data.toList = b :: r.take m := by rw [hX, List.take_succ_cons]
    have hXsz : X.size = m + 1 := by rw [size_list, hX, List.length_take]; omega
    rw [Lex.wordL_cons] at h
    cases hs : isSmall b with
    | true =>
      rw [hs] at h
      simp only [if_true, Option.some.injEq, Prod.mk.injEq] at h
      obtain ⟨rfl, rfl, h3, h4⟩ := h
      have hn := ev_ref_name X (by omega)
      have hcut := Lex.nameL_cut (b :: r)
      rw [h4] at hcut
      rw [nameS_is, hX, hcut] at hn
      have e : (decide ((b :: r).take (m + 1) ≠ []) && decide (m + 1 = ((b :: r).take (m + 1)).length)) = true := by
        rw [← hX, ← size_list, hXsz, hXc]
        simp
      rw [e] at hn
      have ex : X = ⟨(((b :: r).take hi).drop 0).toArray⟩ := eq_mk (by rw [hX, ← h3, h4]; rfl)
      unfold majordomoref11_word.f
      refine Ev.bind hn ?_
      rw [← ex]
      simp only [if_true]
      exact Ev.now _
    | false =>
    cases hg : isGreat b with
    | true =>
      rw [hs, hg] at h
      simp only [if_true, if_false, Bool.false_eq_true, Option.some.injEq, Prod.mk.injEq] at h
      obtain ⟨rfl, rfl, h3, h4⟩ := h
      have hn := ev_ref_name X (by omega)
      have ht := ev_ref_type X (by omega)
      rw [hXc, name_no b _ hs] at hn
      have e : typeB (b :: r.take m) = true := by
        show (isGreat b && (r.take m).all isTail) = true
        rw [hg, Bool.true_and]
        exact all_tw _ _ _ (by unfold Lex.runL at h4; omega)
      rw [hXc, e] at ht
      have ex : X = ⟨(((b :: r).take hi).drop 0).toArray⟩ := eq_mk (by rw [hX, ← h3, h4]; rfl)
      unfold majordomoref11_word.f
      refine Ev.bind hn ?_
      simp only [Bool.false_eq_true, if_false]
      refine Ev.bind ht ?_
      rw [← ex]
      simp only [if_true]
      exact Ev.now _
    | false =>
    cases hd : isDig b with
    | true =>
      rw [hs, hg, hd] at h
      simp only [if_true, if_false, Bool.false_eq_true] at h
      by_cases h9 : 1 + digL r > 9
      · rw [if_pos h9] at h; cases h
      · rw [if_neg h9] at h
        simp only [Option.some.injEq, Prod.mk.injEq] at h
        obtain ⟨rfl, rfl, h3, h4⟩ := h
        have ex : X = ⟨(((b :: r).take hi).drop 0).toArray⟩ := eq_mk (by rw [hX, ← h3, h4]; rfl)
        have := ev_word_num X hz b (r.take m) hXc hd (all_tw _ _ _ (by unfold Lex.digL at h4; omega))
        rw [← ex]
        exact this
    | false =>
    rw [hs, hg, hd] at h
    simp only [Bool.false_eq_true, if_false] at h
    have i39 : ((b.toNat : Int) = 39) ↔ b = 39 := byte_eq b 39 (by decide)
    have hbt : bt X 0 = (b.toNat : Int) := bt_head hXc
    by_cases hq : b = 39 ∨ b = 34
    · rw [if_pos hq] at h
      cases hi2 : idxL r b with
      | none => rw [hi2] at h; cases h
      | some i =>
        rw [hi2] at h
        simp only [Option.some.injEq, Prod.mk.injEq] at h
        obtain ⟨h1, rfl, h3, h4⟩ := h
        have hm : m = i + 1 := by omega
        have hat := Lex.idxL_at r b i hi2
        have hlast : X.data.toList[i + 1]? = some b := by
          rw [hXc, List.getElem?_cons_succ, List.getElem?_take, if_pos (by omega)]
          exact hat
        have hbl : bt X ((i + 1 : Nat) : Int) = (b.toNat : Int) := bt_at_list hlast
        have ex : X.extract 1 (i + 1) = ⟨(((b :: r).take hi).drop 1).toArray⟩ := by
          apply eq_mk
          rw [Lib.extract_data, hXc, ← h3]
          simp only [List.drop_succ_cons, List.drop_zero, Nat.add_sub_cancel]
          rw [Nat.add_comm 1 i, List.take_succ_cons, List.drop_succ_cons, List.drop_zero, List.take_take, Nat.min_eq_left (by omega)]
        have h36 : b ≠ 36 := by rcases hq with rfl | rfl <;> decide
        have hw : wrap64 ((X.size : Int) - 1) = ((i + 1 : Nat) : Int) := w64 _ _ (by omega) (by omega) (by omega)
        refine ev_word_on X hz b (r.take m) hXc hs hg ?_
        rw [decide_eq_false h36, Bool.false_and, ← ex]
        rcases hq with h39 | h34
        · have hk : k = 4 := by rw [← h1, h39]; decide
          subst hk
          refine Ev.step (f := fun k => majordomoref11_word.j1 k X (X.size : Int) true) (fun k => ?_) (Ev.step (f := fun _ => some (4, X.extract 1 (i + 1), 0)) (fun k => ?_) (Ev.now _))
          · simp only [majordomoref11_word.j0]
            rw [hw]
            clear hw
            rw [if_neg (by decide), if_pos (by omega), if_pos (by omega), hbt, if_pos (i39.2 h39), if_pos (by omega), if_pos (by omega), hbl, beq_iff_eq.2 (i39.2 h39)]
          · simp only [majordomoref11_word.j1]
            rw [hw]
            clear hw
            rw [if_pos trivial, if_pos (by omega), if_pos (by omega), Int.toNat_natCast]
        · have hk : k = 5 := by rw [← h1, if_pos h34]
          subst hk
          have h39 : ¬ ((b.toNat : Int) = 39) := fun hh => by have := i39.1 hh; rw [h34] at this; revert this; decide
          have i34 : (b.toNat : Int) = 34 := by rw [h34]; rfl
          refine Ev.step (f := fun k => majordomoref11_word.j1 k X (X.size : Int) false) (fun k => ?_) (Ev.step (f := fun _ => some (5, X.extract 1 (i + 1), 0)) (fun k => ?_) (Ev.now _))
          · simp only [majordomoref11_word.j0]
            clear hw
            rw [if_neg (by decide), if_pos (by omega), if_pos (by omega), hbt, if_neg h39]
          · simp only [majordomoref11_word.j1]
            rw [hw]
            clear hw
            rw [if_neg (by decide), if_pos (by omega), if_pos (by omega), hbt, if_pos i34, if_pos (by omega), if_pos (by omega), hbl, if_pos i34, if_pos (by omega), if_pos (by omega), Int.toNat_natCast]
    · rw [if_neg hq] at h
      by_cases h36 : b = 36
      · rw [if_pos h36] at h
        by_cases hp : partL r = 0
        · rw [if_pos hp] at h; cases h
        · rw [if_neg hp] at h
          simp only [Option.some.injEq, Prod.mk.injEq] at h
          obtain ⟨rfl, rfl, h3, h4⟩ := h
          have hm : m = partL r := by omega
          have ex : X.extract 1 X.size = ⟨(((b :: r).take hi).drop 1).toArray⟩ := by
            apply eq_mk
            rw [Lib.extract_to_end, hXc, ← h3, Nat.add_comm 1 (partL r), List.take_succ_cons, hm]
            first | done | rfl
          have hpb : partB (r.take m) = true := by
            rw [partB_iff, hm, Lex.partL_cut r _ (Nat.le_refl _), List.length_take, Nat.min_eq_left (Lex.partL_le r)]
            have : r.take (partL r) ≠ [] := by
              intro he
              have := congrArg List.length he
              have hle := Lex.partL_le r
              simp only [List.length_take, List.length_nil] at this
              omega
            simp [this]
          refine ev_word_on X hz b (r.take m) hXc hs hg ?_
          rw [decide_eq_true h36, hpb, ← ex]
          refine Ev.step (f := fun _ => some (3, X.extract 1 X.size, 0)) (fun k => ?_) (Ev.now _)
          simp only [majordomoref11_word.j0]
          rw [if_pos (by rfl), if_pos (by omega)]
      · rw [if_neg h36] at h
        cases hx : signL (b :: r) with
        | none => rw [hx] at h; cases h
        | some x =>
          rw [hx] at h
          simp only [Option.some.injEq, Prod.mk.injEq] at h
          obtain ⟨rfl, rfl, h3, h4⟩ := h
          obtain ⟨hm, hp⟩ := Lex.signL_spec hx
          have e := List.prefix_iff_eq_take.1 (List.isPrefixOf_iff_prefix.1 hp)
          have hX2 : X.data.toList = x := by rw [hX, ← h4, ← e]
          have ex : X = ⟨(((b :: r).take hi).drop 0).toArray⟩ := eq_mk (by rw [hX, ← h3, h4]; rfl)
          have := Ev.of (majordomoref11_word.mono X) (k := 60) (by rw [eq_mk hX2]; exact word_signs x hm)
          rw [← ex]
          rw [← eq_mk hX2] at this
          exact this

/-! ### texts -/
theorem l2_zero (s : ByteArray) (acc : List S29) (p : Nat) (K : Int) (T : ByteArray) (A : Int) : Ev (fun k => majordomoref11_Lex.l2 k s acc (p : Int) 0 K T A) ([], (p : Int), 110) := by
  refine Ev.step (f := fun _ => some ([], (p : Int), 110)) (fun k => ?_) (Ev.now _)
  simp only [majordomoref11_Lex.l2]
  rw [if_neg (by decide), if_pos trivial]
theorem l2_take (s : ByteArray) (hz : s.size ≤ 65536) (acc : List S29) (hacc : acc.length ≤ 65536) (p n : Nat) (K : Int) (T : ByteArray) (A : Int) (hn : 0 < n) (hp : p + n ≤ s.size) (hK : K ≠ 0) (h6 : K = 6 → n ≤ 9) {v : List S29 × Int × Int}
    (h : Ev (fun k => majordomoref11_Lex.l0 k s (acc ++ [(⟨K, T, (p : Int)⟩ : S29)]) ((p + n : Nat) : Int)) v) : Ev (fun k => majordomoref11_Lex.l2 k s acc (p : Int) (n : Int) K T A) v := by
  refine Ev.step (fun k => ?_) h
  simp only [majordomoref11_Lex.l2]
  rw [if_pos (by omega), if_neg hK, if_neg (by omega)]
  by_cases h : K = 6
  · have := h6 h
    rw [if_pos h, if_neg (by omega), if_pos (by omega), w64 ((p : Int) + (n : Int)) ((p + n : Nat) : Int) (by omega) (by omega) (by omega)]
  · rw [if_neg h, if_pos (by omega), w64 ((p : Int) + (n : Int)) ((p + n : Nat) : Int) (by omega) (by omega) (by omega)]
theorem l2_long (s : ByteArray) (acc : List S29) (p n : Nat) (T : ByteArray) (A : Int) (hn : 9 < n) : Ev (fun k => majordomoref11_Lex.l2 k s acc (p : Int) (n : Int) 6 T A) ([], (p : Int), 110) := by
  refine Ev.step (f := fun _ => some ([], (p : Int), 110)) (fun k => ?_) (Ev.now _)
  simp only [majordomoref11_Lex.l2]
  rw [if_pos (by omega), if_neg (by decide), if_neg (by omega), if_pos trivial, if_pos (by omega)]
theorem l2_down (s : ByteArray) (hz : s.size ≤ 65536) (acc : List S29) (p n : Nat) (T : ByteArray) (A : Int) (hp : p + n + 1 ≤ s.size) {w : Int × ByteArray × Int} {v : List S29 × Int × Int}
    (hw : Ev (fun k => majordomoref11_word.f k (s.extract p (p + n))) w) (h : Ev (fun k => majordomoref11_Lex.l2 k s acc (p : Int) (n : Int) w.1 w.2.1 w.2.2) v) : Ev (fun k => majordomoref11_Lex.l2 k s acc (p : Int) ((n + 1 : Nat) : Int) 0 T A) v := by
  refine Ev.step (f := fun k => (majordomoref11_word.f k (s.extract p (p + n))).bind fun bt248 => majordomoref11_Lex.l2 k s acc (p : Int) (n : Int) bt248.1 bt248.2.1 bt248.2.2) (fun k => ?_) (Ev.bind hw h)
  simp only [majordomoref11_Lex.l2]
  have e1 : wrap64 (((n + 1 : Nat) : Int) - 1) = (n : Int) := w64 _ _ (by omega) (by omega) (by omega)
  have e2 : wrap64 ((p : Int) + (n : Int)) = ((p + n : Nat) : Int) := w64 _ _ (by clear e1; omega) (by clear e1; omega) (by clear e1; omega)
  rw [e1, e2]
  clear e1 e2
  rw [if_pos (by omega), if_pos trivial, if_pos (by omega), if_pos (by omega), if_pos (by omega), Int.toNat_natCast, Int.toNat_natCast]
theorem ev_ref_com (s : ByteArray) (hz : s.size ≤ 65536) (acc : List S29) : ∀ (d p : Nat), s.size - p ≤ d → p ≤ s.size → ∀ v, Ev (fun k => majordomoref11_Lex.l0 k s acc ((p + comL (s.data.toList.drop p) : Nat) : Int)) v → Ev (fun k => majordomoref11_Lex.l1 k s acc (p : Int)) v := by
  have hend : ∀ p : Nat, p = s.size → ∀ v, Ev (fun k => majordomoref11_Lex.l0 k s acc ((p + comL (s.data.toList.drop p) : Nat) : Int)) v → Ev (fun k => majordomoref11_Lex.l1 k s acc (p : Int)) v := by
    intro p hp v hv
    rw [drop_end s p (by omega)] at hv
    refine Ev.step (fun k => ?_) hv
    simp only [majordomoref11_Lex.l1]
    rw [if_neg (by omega)]
    rfl
  intro d
  induction d with
  | zero => intro p h1 h2; exact hend p (by omega)
  | succ d ih =>
    intro p h1 h2 v hv
    by_cases hlt : p < s.size
    · obtain ⟨b, r, hd, hb, hr⟩ := drop_cases s p hlt
      have i10 : ((b.toNat : Int) = 10) ↔ b = 10 := byte_eq b 10 (by decide)
      rw [hd] at hv
      by_cases h10 : b = 10
      · have : comL (b :: r) = 0 := by unfold Lex.comL; rw [Lex.idxL_cons, if_pos (by simp [h10])]
        rw [this] at hv
        refine Ev.step (fun k => ?_) hv
        simp only [majordomoref11_Lex.l1]
        rw [if_pos (by omega), if_pos (by omega), hb, if_pos (i10.2 h10)]
        rfl
      · have hc : comL (b :: r) = comL r + 1 := by
          unfold Lex.comL
          rw [Lex.idxL_cons, if_neg (by simpa using h10)]
          cases idxL r 10 <;> simp
        rw [hc] at hv
        have hr' : s.data.toList.drop (p + 1) = r := hr
        have := ih (p + 1) (by omega) (by omega) v
        rw [hr'] at this
        have e : p + 1 + comL r = p + (comL r + 1) := by omega
        rw [e] at this
        refine Ev.step (fun k => ?_) (this hv)
        simp only [majordomoref11_Lex.l1]
        rw [if_pos (by omega), if_pos (by omega), hb, if_neg (fun h => h10 (i10.1 h)), w64 ((p : Int) + 1) ((p + 1 : Nat) : Int) (by omega) (by omega) (by omega)]
    · exact hend p (by omega) v hv
theorem blank_dec (b : UInt8) (s : ByteArray) (acc : List S29) (p : Int) (k : Nat) : (if (b.toNat : Int) = 9 then (majordomoref11_Lex.j1 k s acc p (b.toNat : Int) true) else (if (b.toNat : Int) = 10 then (majordomoref11_Lex.j1 k s acc p (b.toNat : Int) true) else (if (b.toNat : Int) = 13 then (majordomoref11_Lex.j1 k s acc p (b.toNat : Int) true) else (majordomoref11_Lex.j1 k s acc p (b.toNat : Int) ((b.toNat : Int) == 32))))) = majordomoref11_Lex.j1 k s acc p (b.toNat : Int) (isBlank b) := by
  have i9 : ((b.toNat : Int) = 9) ↔ b = 9 := byte_eq b 9 (by decide)
  have i10 : ((b.toNat : Int) = 10) ↔ b = 10 := byte_eq b 10 (by decide)
  have i13 : ((b.toNat : Int) = 13) ↔ b = 13 := byte_eq b 13 (by decide)
  have i32 : ((b.toNat : Int) = 32) ↔ b = 32 := byte_eq b 32 (by decide)
  unfold Lex.isBlank
  by_cases h9 : b = 9
  · rw [if_pos (i9.2 h9)]; simp [h9]
  · rw [if_neg (fun h => h9 (i9.1 h))]
    by_cases h10 : b = 10
    · rw [if_pos (i10.2 h10)]; simp [h10]
    · rw [if_neg (fun h => h10 (i10.1 h))]
      by_cases h13 : b = 13
      · rw [if_pos (i13.2 h13)]; simp [h13]
      · rw [if_neg (fun h => h13 (i13.1 h))]
        congr 1
        rw [Bool.eq_iff_iff]
        simp only [beq_iff_eq, Bool.or_eq_true]
        constructor
        · intro h; exact .inr (i32.1 h)
        · rintro (((h | h) | h) | h)
          · exact absurd h h9
          · exact absurd h h10
          · exact absurd h h13
          · exact i32.2 h
theorem sign_order : ∀ y ∈ signs, ∀ z ∈ signs, y.length = 2 → z.length = 1 → ∀ l : List UInt8, y.isPrefixOf l = true → Lex.signL l ≠ some z := by
  intro y hy z hz2 hyl hzl l hyp hsz
  -- signL takes the first that fits: the two-byte ones come first
  unfold Lex.signL at hsz
  rw [List.find?_eq_some_iff_append] at hsz
  obtain ⟨-, us, bs, hab, hnone⟩ := hsz
  have hyi : y ∈ us ∨ y = z ∨ y ∈ bs := by
    have : y ∈ us ++ z :: bs := hab ▸ hy
    simpa using this
  rcases hyi with h | h | h
  · have := hnone y h
    rw [hyp] at this
    cases this
  · rw [h] at hyl; omega
  · -- behind z, which has one byte, no sign has two
    have hord : ∀ n : Fin 15, ∀ m : Fin 15, n.val < m.val → (signs.getD n.val []).length = 1 → (signs.getD m.val []).length ≠ 2 := by decide
    obtain ⟨j, hj, rfl⟩ := List.mem_iff_getElem.1 h
    have hln : us.length + (bs.length + 1) = 15 := by
      have := congrArg List.length hab
      simp only [List.length_append, List.length_cons] at this
      have h15 : signs.length = 15 := rfl
      omega
    have e1 : signs.getD us.length [] = z := by rw [hab]; simp
    have e2 : signs.getD (us.length + 1 + j) [] = bs[j] := by
      rw [hab, List.getD_eq_getElem?_getD, List.getElem?_append_right (by omega)]
      have : us.length + 1 + j - us.length = j + 1 := by omega
      rw [this, List.getElem?_cons_succ, List.getElem?_eq_getElem hj]
      rfl
    exact hord ⟨us.length, by omega⟩ ⟨us.length + 1 + j, by omega⟩ (by simp only; omega) (by simp only; rw [e1]; exact hzl) (by simp only; rw [e2]; exact hyl)

def Other (b : UInt8) : Prop := isSmall b = false ∧ isGreat b = false ∧ isDig b = false ∧ b ≠ 36 ∧ b ≠ 39 ∧ b ≠ 34
theorem reach_some {b : UInt8} {r : List UInt8} {k lo hi n : Nat} (h : wordL (b :: r) = some (k, lo, hi, n)) : k ≠ 0 ∧ (k = 6 → n ≤ 9) ∧ (reachL (b :: r) = n ∨ (Other b ∧ n = 1 ∧ reachL (b :: r) = 2 ∧ (b :: r).take 2 ∉ signs ∧ 1 ≤ r.length)) := by
  obtain ⟨cs, cg, cd⟩ := class_of b
  rw [reachL_cons]
  rw [Lex.wordL_cons] at h
  cases hs : isSmall b with
  | true =>
    obtain ⟨c1, c2, c3, c4, c5⟩ := cs hs
    rw [hs] at h
    simp only [if_true, Option.some.injEq, Prod.mk.injEq] at h
    obtain ⟨rfl, rfl, h3, h4⟩ := h
    refine ⟨by decide, fun h => absurd h (by decide), .inl ?_⟩
    rw [if_neg (by rintro (h | h); exact c4 h; exact c5 h), if_neg (fun h => c3 h.1), c2]
    simpa using h4
  | false =>
  cases hg : isGreat b with
  | true =>
    obtain ⟨c1, c2, c3, c4, c5⟩ := cg hg
    rw [hs, hg] at h
    simp only [if_true, if_false, Bool.false_eq_true, Option.some.injEq, Prod.mk.injEq] at h
    obtain ⟨rfl, rfl, h3, h4⟩ := h
    refine ⟨by decide, fun h => absurd h (by decide), .inl ?_⟩
    rw [if_neg (by rintro (h | h); exact c4 h; exact c5 h), if_neg (fun h => c3 h.1), c2]
    simpa using h4
  | false =>
  cases hdg : isDig b with
  | true =>
    obtain ⟨c1, c2, c3, c4, c5⟩ := cd hdg
    rw [hs, hg, hdg] at h
    simp only [if_true, if_false, Bool.false_eq_true] at h
    by_cases h9 : 1 + digL r > 9
    · rw [if_pos h9] at h; cases h
    · rw [if_neg h9] at h
      simp only [Option.some.injEq, Prod.mk.injEq] at h
      obtain ⟨rfl, rfl, h3, h4⟩ := h
      refine ⟨by decide, fun _ => by omega, .inl ?_⟩
      rw [if_neg (by rintro (h | h); exact c4 h; exact c5 h), if_neg (fun h => c3 h.1)]
      simpa using h4
  | false =>
  rw [hs, hg, hdg] at h
  simp only [Bool.false_eq_true, if_false, false_or] at h ⊢
  by_cases hq : b = 39 ∨ b = 34
  · rw [if_pos hq] at h ⊢
    cases hi : idxL r b with
    | none => rw [hi] at h; cases h
    | some i =>
      rw [hi] at h
      simp only [Option.some.injEq, Prod.mk.injEq] at h
      obtain ⟨h1, rfl, h3, h4⟩ := h
      refine ⟨by rw [← h1]; split <;> decide, fun h6 => ?_, .inl h4⟩
      exfalso
      rw [← h1] at h6
      split at h6 <;> cases h6
  · rw [if_neg hq] at h ⊢
    by_cases h36 : b = 36
    · rw [if_pos h36] at h
      by_cases hp0 : partL r = 0
      · rw [if_pos hp0] at h; cases h
      · rw [if_neg hp0] at h
        simp only [Option.some.injEq, Prod.mk.injEq] at h
        obtain ⟨rfl, rfl, h3, h4⟩ := h
        refine ⟨by decide, fun h => absurd h (by decide), .inl ?_⟩
        rw [if_neg (fun h => hp0 h.2), if_pos h36]
        cases r with
        | nil => exact absurd rfl hp0
        | cons c r2 =>
          cases hsc : isSmall c with
          | false => exact absurd (by rw [Lex.partL_cons, hsc]; rfl) hp0
          | true =>
            rw [Lex.partL_cons, hsc, if_pos rfl] at h4
            exact h4
    · rw [if_neg h36] at h
      rw [if_neg (fun h => h36 h.1), if_neg h36]
      cases hx : signL (b :: r) with
      | none => rw [hx] at h; cases h
      | some x =>
        rw [hx] at h
        simp only [Option.some.injEq, Prod.mk.injEq] at h
        obtain ⟨rfl, rfl, h3, h4⟩ := h
        obtain ⟨hxm, hxp⟩ := Lex.signL_spec hx
        have hlen := Lex.sign_len hxm
        have hpre := List.prefix_iff_eq_take.1 (List.isPrefixOf_iff_prefix.1 hxp)
        have hxl := (List.isPrefixOf_iff_prefix.1 hxp).length_le
        simp only [List.length_cons] at hxl
        refine ⟨by decide, fun h => absurd h (by decide), ?_⟩
        by_cases heq : min 2 (r.length + 1) = n
        · exact .inl heq
        · refine .inr ⟨⟨hs, hg, hdg, h36, fun h => hq (.inl h), fun h => hq (.inr h)⟩, by omega, by omega, ?_, by omega⟩
          intro hm2
          have hl2 : ((b :: r).take 2).length = 2 := by rw [List.length_take, List.length_cons]; omega
          exact sign_order _ hm2 x hxm hl2 (by omega) (b :: r) (List.isPrefixOf_iff_prefix.2 (List.take_prefix _ _)) hx
theorem reach_none {b : UInt8} {r : List UInt8} (h : wordL (b :: r) = none) : reachL (b :: r) = 0 ∨ (isDig b = true ∧ 9 < 1 + digL r ∧ reachL (b :: r) = 1 + digL r) ∨ (Other b ∧ reachL (b :: r) = min 2 (r.length + 1) ∧ ∀ m, 1 ≤ m → (b :: r).take m ∉ signs) := by
  obtain ⟨cs, cg, cd⟩ := class_of b
  rw [reachL_cons]
  rw [Lex.wordL_cons] at h
  cases hs : isSmall b with
  | true => rw [hs] at h; cases h
  | false =>
  cases hg : isGreat b with
  | true => rw [hs, hg] at h; cases h
  | false =>
  cases hdg : isDig b with
  | true =>
    obtain ⟨c1, c2, c3, c4, c5⟩ := cd hdg
    rw [hs, hg, hdg] at h
    simp only [if_true, if_false, Bool.false_eq_true] at h
    by_cases h9 : 1 + digL r > 9
    · refine .inr (.inl ⟨rfl, h9, ?_⟩)
      rw [if_neg (by rintro (h | h); exact c4 h; exact c5 h), if_neg (fun h => c3 h.1)]
      simp
    · rw [if_neg h9] at h; cases h
  | false =>
  rw [hs, hg, hdg] at h
  simp only [Bool.false_eq_true, if_false, false_or] at h ⊢
  by_cases hq : b = 39 ∨ b = 34
  · rw [if_pos hq] at h ⊢
    cases hi : idxL r b with
    | none => exact .inl rfl
    | some i => rw [hi] at h; cases h
  · rw [if_neg hq] at h ⊢
    by_cases h36 : b = 36
    · rw [if_pos h36] at h
      by_cases hp0 : partL r = 0
      · rw [if_pos ⟨h36, hp0⟩]; exact .inl rfl
      · rw [if_neg hp0] at h; cases h
    · rw [if_neg h36] at h
      rw [if_neg (fun h => h36 h.1), if_neg h36]
      cases hx : signL (b :: r) with
      | some x => rw [hx] at h; cases h
      | none =>
        refine .inr (.inr ⟨⟨hs, hg, hdg, h36, fun h => hq (.inl h), fun h => hq (.inr h)⟩, rfl, ?_⟩)
        intro m h1 hm
        unfold Lex.signL at hx
        rw [List.find?_eq_none] at hx
        exact hx _ hm (List.isPrefixOf_iff_prefix.2 (List.take_prefix _ _))
/-- Where no word is: the reference goes down to nothing, too. -/
theorem ev_ref_lexGo (s : ByteArray) (hz : s.size ≤ 65536) : ∀ (f p : Nat) (acc : List S29), p ≤ s.size → s.size ≤ f + p → acc.length + (s.size - p) ≤ 65536 →
    Ev (fun k => majordomoref11_Lex.l0 k s acc (p : Int)) (lexRes acc (lexF f p (s.data.toList.drop p))) := by
  have hl := size_list s
  have hend : ∀ (f p : Nat) (acc : List S29), p = s.size → Ev (fun k => majordomoref11_Lex.l0 k s acc (p : Int)) (lexRes acc (lexF f p (s.data.toList.drop p))) := by
    intro f p acc hp
    rw [drop_end s p (by omega)]
    have e : lexRes acc (lexF f p []) = (acc, 0, 0) := by cases f <;> simp [Lex.lexF, lexRes]
    rw [e]
    refine Ev.step (f := fun _ => some (acc, 0, 0)) (fun k => ?_) (Ev.now _)
    simp only [majordomoref11_Lex.l0]
    rw [if_neg (by omega)]
  intro f
  induction f with
  | zero => intro p acc h1 h2 h3; exact hend 0 p acc (by omega)
  | succ f ih =>
    intro p acc h1 h2 h3
    by_cases hlt : p < s.size
    · obtain ⟨b, r, hd, hb, hr⟩ := drop_cases s p hlt
      have hrl := congrArg List.length hd
      simp only [List.length_drop, List.length_cons] at hrl
      rw [hd]
      have hstep : ∀ v, Ev (fun k => majordomoref11_Lex.j1 k s acc (p : Int) (b.toNat : Int) (isBlank b)) v → Ev (fun k => majordomoref11_Lex.l0 k s acc (p : Int)) v := by
        intro v hv
        refine Ev.step (fun k => ?_) hv
        simp only [majordomoref11_Lex.l0]
        rw [if_pos (by omega), if_pos (by omega), hb, blank_dec]
      apply hstep
      unfold Lex.lexF
      cases hbl : isBlank b with
      | true =>
        rw [if_pos rfl]
        have := ih (p + 1) acc (by omega) (by omega) (by omega)
        rw [hr] at this
        refine Ev.step (fun k => ?_) this
        simp only [majordomoref11_Lex.j1]
        rw [if_pos trivial, w64 ((p : Int) + 1) ((p + 1 : Nat) : Int) (by omega) (by omega) (by omega)]
      | false =>
        rw [if_neg (by decide)]
        have i35 : ((b.toNat : Int) = 35) ↔ b = 35 := byte_eq b 35 (by decide)
        by_cases h35 : b = 35
        · rw [if_pos h35]
          have hm := Lex.comL_le (b :: r)
          simp only [List.length_cons] at hm
          have hm1 : 1 ≤ comL (b :: r) := by rw [h35]; exact Lex.comL_pos r
          have hnext := ih (p + comL (b :: r)) acc (by omega) (by omega) (by omega)
          rw [← List.drop_drop, hd] at hnext
          have hcom := ev_ref_com s hz acc s.size p (by omega) (by omega) (lexRes acc (lexF f (p + comL (b :: r)) ((b :: r).drop (comL (b :: r))))) (by rw [hd]; exact hnext)
          refine Ev.step (fun k => ?_) hcom
          simp only [majordomoref11_Lex.j1]
          rw [if_neg (by decide), if_pos (i35.2 h35)]
        · rw [if_neg h35]
          have hx : (s.extract p s.size).data.toList = b :: r := by rw [Lib.extract_to_end, hd]
          have hxs : (s.extract p s.size).size ≤ 65536 := by rw [size_list, hx]; simp only [List.length_cons]; omega
          have hreach := ev_reach (s.extract p s.size) hxs b r hx
          have hcutd : ∀ n, (s.extract p (p + n)).data.toList = (b :: r).take n := by
            intro n
            rw [Lib.extract_data, hd]
            congr 1
            omega
          have hcuts : ∀ n, n ≤ r.length + 1 → (s.extract p (p + n)).size = n := by
            intro n hn
            rw [size_list, hcutd, List.length_take, List.length_cons]
            omega
          -- from the reach on
          have hgo : ∀ (n : Nat) (w : Int × ByteArray × Int) (v : List S29 × Int × Int), reachL (b :: r) = n → n ≤ r.length + 1 → Ev (fun k => majordomoref11_word.f k (s.extract p (p + n))) w → Ev (fun k => majordomoref11_Lex.l2 k s acc (p : Int) (n : Int) w.1 w.2.1 w.2.2) v → Ev (fun k => majordomoref11_Lex.j1 k s acc (p : Int) (b.toNat : Int) false) v := by
            intro n w v hn hle hw hv
            rw [hn] at hreach
            refine Ev.step (f := fun k => (majordomoref11_reach.f k (s.extract p s.size)).bind fun t243 => (if (p : Int) ≤ (wrap64 ((p : Int) + t243)) then (if (wrap64 ((p : Int) + t243)) ≤ (s.size : Int) then ((majordomoref11_word.f k (s.extract p ((wrap64 ((p : Int) + t243)) : Int).toNat)).bind fun bt244 => (majordomoref11_Lex.l2 k s acc (p : Int) t243 bt244.1 bt244.2.1 bt244.2.2)) else (none)) else (none))) (fun k => ?_) (Ev.bind hreach ?_)
            · simp only [majordomoref11_Lex.j1]
              rw [if_neg (by decide), if_neg (fun h => h35 (i35.1 h)), if_pos (by omega), if_pos (by omega), Int.toNat_natCast]
            · have e2 : wrap64 ((p : Int) + (n : Int)) = ((p + n : Nat) : Int) := w64 _ _ (by omega) (by omega) (by omega)
              rw [e2]
              clear e2
              refine Ev.congr (f := fun k => (majordomoref11_word.f k (s.extract p (p + n))).bind fun bt244 => majordomoref11_Lex.l2 k s acc (p : Int) (n : Int) bt244.1 bt244.2.1 bt244.2.2) (fun k => ?_) (Ev.bind hw hv)
              rw [if_pos (by omega), if_pos (by omega), Int.toNat_natCast]
          have hempty : Ev (fun k => majordomoref11_word.f k (s.extract p (p + 0))) (0, ⟨#[]⟩, 0) := by
            have e : s.extract p (p + 0) = ⟨#[]⟩ := eq_mk (l := []) (by rw [hcutd]; rfl)
            rw [e]
            exact Ev.of (majordomoref11_word.mono _) word_empty
          have hnot : Other b → ∀ n, 1 ≤ n → n ≤ r.length + 1 → (b :: r).take n ∉ signs → Ev (fun k => majordomoref11_word.f k (s.extract p (p + n))) (0, ⟨#[]⟩, 0) := by
            rintro ⟨hs, hg, hdg, h36, h39, h34⟩ n h1 h2 hn
            obtain ⟨m, rfl⟩ : ∃ m, n = m + 1 := ⟨n - 1, by omega⟩
            exact ev_word_not _ (by rw [hcuts _ h2]; omega) b (r.take m) (by rw [hcutd, List.take_succ_cons]) hs hg hdg h36 h39 h34 (by rw [hcutd]; exact hn)
          cases hw : wordL (b :: r) with
          | none =>
            show Ev _ ([], (p : Int), 110)
            rcases reach_none hw with h0 | ⟨hdg, h9, hrn⟩ | ⟨ho, hrn, hno⟩
            · exact hgo 0 _ _ h0 (by omega) hempty (l2_zero s acc p _ _ _)
            · have hle := Lex.digL_le r
              have hnum := ev_word_num (s.extract p (p + (1 + digL r))) (by rw [hcuts _ (by omega)]; omega) b (r.take (digL r)) (by rw [hcutd, Nat.add_comm, List.take_succ_cons]) hdg (all_tw _ _ _ (by unfold Lex.digL; exact Nat.le_refl _))
              exact hgo _ _ _ hrn (by omega) hnum (l2_long s acc p _ _ _ h9)
            · have hbad : ∀ n, n ≤ r.length + 1 → Ev (fun k => majordomoref11_Lex.l2 k s acc (p : Int) (n : Int) 0 ⟨#[]⟩ 0) ([], (p : Int), 110) := by
                intro n
                induction n with
                | zero => intro _; exact l2_zero s acc p _ _ _
                | succ n ihn =>
                  intro hn
                  by_cases hn0 : n = 0
                  · subst hn0
                    exact l2_down s hz acc p 0 _ _ (by omega) hempty (l2_zero s acc p _ _ _)
                  · exact l2_down s hz acc p n _ _ (by omega) (hnot ho n (by omega) (by omega) (hno n (by omega))) (ihn (by omega))
              exact hgo _ _ _ hrn (by omega) (hnot ho _ (by omega) (by omega) (hno _ (by omega))) (hbad _ (by omega))
          | some w =>
            obtain ⟨k, lo, hi, n⟩ := w
            have hok := Lex.wordL_ok hw
            simp only [List.length_cons] at hok
            obtain ⟨hk0, h6, hr2⟩ := reach_some hw
            have hwx := ev_word_ok hw (s.extract p (p + n)) (by rw [hcuts n (by omega)]; omega) (hcutd n)
            have hi2 := ih (p + n) (acc ++ [toS ⟨k, ((b :: r).take hi).drop lo, p⟩]) (by omega) (by omega) (by simp only [List.length_append, List.length_singleton]; omega)
            rw [← List.drop_drop, hd] at hi2
            have hres : lexRes (acc ++ [toS ⟨k, ((b :: r).take hi).drop lo, p⟩]) (lexF f (p + n) ((b :: r).drop n)) = lexRes acc (match lexF f (p + n) ((b :: r).drop n) with
                | .inr q => .inr q
                | .inl ts => .inl (⟨k, ((b :: r).take hi).drop lo, p⟩ :: ts)) := by
              cases lexF f (p + n) ((b :: r).drop n) with
              | inl ts => simp [lexRes]
              | inr q => rfl
            rw [hres] at hi2
            have ht := l2_take s hz acc (by omega) p n (k : Int) ⟨(((b :: r).take hi).drop lo).toArray⟩ 0 (by omega) (by omega) (by omega) (fun h => h6 (by omega)) hi2
            rcases hr2 with hrn | ⟨ho, rfl, hrn, h2n, hr1⟩
            · exact hgo n _ _ hrn (by omega) hwx ht
            · exact hgo 2 _ _ hrn (by omega) (hnot ho 2 (by omega) (by omega) h2n) (l2_down s hz acc p 1 _ _ (by omega) hwx ht)
    · exact hend (f + 1) p acc (by omega)
end Go.Proofs.YtjjhopcbipedaaaDoor.PX
