/- The document's lexer (the reference): words, texts; LexerCuts' plain law. -/
import Derived.Test.YtjjhopcbipedaaaDoorLexReach
namespace Go.Proofs.YtjjhopcbipedaaaDoor.PX
open Go.RowKit Go.Proofs.YtjjhopcbipedaaaDoorW.PrintWords Go.Proofs.YtjjhopcbipedaaaDoorW.PrintLast Go.Proofs.YtjjhopcbipedaaaDoorW.PrintMore
open Lex (wordL lexF Lexes Tok comL idxL isBlank textOf isSmall isGreat isDig isTail partL nameL nameGo runL digL colons signL signs)

theorem classes : ∀ n : Fin 256, (isSmall (UInt8.ofNat n.val) = true → isGreat (UInt8.ofNat n.val) = false ∧ isDig (UInt8.ofNat n.val) = false ∧ n.val ≠ 36 ∧ n.val ≠ 39 ∧ n.val ≠ 34) ∧ (isGreat (UInt8.ofNat n.val) = true → isSmall (UInt8.ofNat n.val) = false ∧ isDig (UInt8.ofNat n.val) = false ∧ n.val ≠ 36 ∧ n.val ≠ 39 ∧ n.val ≠ 34) ∧ (isDig (UInt8.ofNat n.val) = true → isSmall (UInt8.ofNat n.val) = false ∧ isGreat (UInt8.ofNat n.val) = false ∧ n.val ≠ 36 ∧ n.val ≠ 39 ∧ n.val ≠ 34) := by decide +kernel
theorem byte_ne {b : UInt8} {x : Nat} (hx : x < 256) (h : b.toNat ≠ x) : b ≠ UInt8.ofNat x := fun e => h (by rw [e, UInt8.toNat_ofNat_of_lt' (by simpa using hx)])
theorem class_of (b : UInt8) : (isSmall b = true → isGreat b = false ∧ isDig b = false ∧ b ≠ 36 ∧ b ≠ 39 ∧ b ≠ 34) ∧ (isGreat b = true → isSmall b = false ∧ isDig b = false ∧ b ≠ 36 ∧ b ≠ 39 ∧ b ≠ 34) ∧ (isDig b = true → isSmall b = false ∧ isGreat b = false ∧ b ≠ 36 ∧ b ≠ 39 ∧ b ≠ 34) := by
  have h := classes ⟨b.toNat, b.toNat_lt⟩
  simp only [UInt8.ofNat_toNat] at h
  refine ⟨fun hh => ?_, fun hh => ?_, fun hh => ?_⟩
  · obtain ⟨a1, a2, a3, a4, a5⟩ := h.1 hh
    exact ⟨a1, a2, byte_ne (by decide) a3, byte_ne (by decide) a4, byte_ne (by decide) a5⟩
  · obtain ⟨a1, a2, a3, a4, a5⟩ := h.2.1 hh
    exact ⟨a1, a2, byte_ne (by decide) a3, byte_ne (by decide) a4, byte_ne (by decide) a5⟩
  · obtain ⟨a1, a2, a3, a4, a5⟩ := h.2.2 hh
    exact ⟨a1, a2, byte_ne (by decide) a3, byte_ne (by decide) a4, byte_ne (by decide) a5⟩
theorem great_int (b : UInt8) : (isGreat b = true ↔ ((b.toNat : Int) ≥ 65 ∧ (b.toNat : Int) ≤ 90)) := by
  unfold Lex.isGreat
  simp only [Bool.and_eq_true, decide_eq_true_eq, UInt8.le_iff_toNat_le]
  constructor
  · rintro ⟨h1, h2⟩; exact ⟨by have : (65 : UInt8).toNat = 65 := rfl; omega, by have : (90 : UInt8).toNat = 90 := rfl; omega⟩
  · rintro ⟨h1, h2⟩; exact ⟨by have : (65 : UInt8).toNat = 65 := rfl; omega, by have : (90 : UInt8).toNat = 90 := rfl; omega⟩

theorem ev_reach (s : ByteArray) (hz : s.size ≤ 65536) (b : UInt8) (r : List UInt8) (hd0 : s.data.toList = b :: r) : Ev (fun k => majordomoref11_reach.f k s) (reachL (b :: r) : Int) := by
  have hsz : s.size = r.length + 1 := by rw [size_list, hd0]; rfl
  have hbt : bt s 0 = (b.toNat : Int) := bt_head hd0
  have h1 : s.data.toList.drop 1 = r := by rw [hd0]; rfl
  have i39 : ((b.toNat : Int) = 39) ↔ b = 39 := byte_eq b 39 (by decide)
  have i34 : ((b.toNat : Int) = 34) ↔ b = 34 := byte_eq b 34 (by decide)
  have i36 : ((b.toNat : Int) = 36) ↔ b = 36 := byte_eq b 36 (by decide)
  obtain ⟨cs, cg, cd⟩ := class_of b
  rw [reachL_cons]
  have hf : ∀ k, majordomoref11_reach.f k s = majordomoref11_reach.j0 k s (b.toNat : Int) (decide (b = 39 ∨ b = 34)) := by
    intro k
    unfold majordomoref11_reach.f
    rw [if_pos (by omega), hbt]
    by_cases h39 : b = 39
    · rw [if_pos (i39.2 h39), decide_eq_true (.inl h39)]
    · rw [if_neg (fun h => h39 (i39.1 h))]
      by_cases h34 : b = 34
      · rw [decide_eq_true (.inr h34), beq_iff_eq.2 (i34.2 h34)]
      · rw [decide_eq_false (by rintro (h | h); exact h39 h; exact h34 h), beq_eq_false_iff_ne.2 (fun h => h34 (i34.1 h))]
  refine Ev.congr hf ?_
  by_cases hq : b = 39 ∨ b = 34
  · rw [if_pos hq, decide_eq_true hq]
    have := ev_reach_q s b hz s.size 1 (by omega) (by omega)
    rw [h1] at this
    have hj : ∀ X, Ev (fun k => majordomoref11_reach.l0 k s (b.toNat : Int) ((1 : Nat) : Int)) X → Ev (fun k => majordomoref11_reach.j0 k s (b.toNat : Int) true) X := by
      intro X hX
      refine Ev.step (fun k => ?_) hX
      simp only [majordomoref11_reach.j0]
      rw [if_pos trivial]
      rfl
    cases hi : idxL r b with
    | none => rw [hi] at this; exact hj _ this
    | some i =>
      rw [hi] at this
      have e : ((1 + i + 1 : Nat) : Int) = ((i + 2 : Nat) : Int) := by omega
      simp only at this
      rw [e] at this
      exact hj _ this
  · rw [if_neg hq, decide_eq_false hq]
    have hj2t : Ev (fun k => majordomoref11_reach.j2 k s (b.toNat : Int) true) 0 := by
      refine Ev.step (f := fun _ => some 0) (fun k => ?_) (Ev.now _)
      simp only [majordomoref11_reach.j2]
      rw [if_pos trivial]
    by_cases h36 : b = 36 ∧ partL r = 0
    · rw [if_pos h36]
      obtain ⟨hb36, hp⟩ := h36
      cases r with
      | nil =>
        refine Ev.step (fun k => ?_) hj2t
        simp only [majordomoref11_reach.j0]
        simp only [List.length_nil] at hsz
        rw [if_neg (by decide), if_pos (i36.2 hb36), if_pos (by omega)]
      | cons c r2 =>
        have hc : isSmall c = false := by
          cases hs : isSmall c with
          | false => rfl
          | true => have := Lex.partL_pos (r := r2) hs; omega
        have hbt1 : bt s 1 = (c.toNat : Int) := bt_drop (p := 1) h1
        refine Ev.step (fun k => ?_) hj2t
        simp only [majordomoref11_reach.j0]
        simp only [List.length_cons] at hsz
        rw [if_neg (by decide), if_pos (i36.2 hb36), if_neg (by omega), if_pos (by omega), hbt1, (ref_byte c).1, hc]
        rfl
    · rw [if_neg h36]
      have hj0 : ∀ X, Ev (fun k => majordomoref11_reach.j2 k s (b.toNat : Int) false) X → Ev (fun k => majordomoref11_reach.j0 k s (b.toNat : Int) false) X := by
        intro X hX
        refine Ev.step (fun k => ?_) hX
        simp only [majordomoref11_reach.j0]
        rw [if_neg (by decide)]
        by_cases hb36 : b = 36
        · rw [if_pos (i36.2 hb36)]
          cases r with
          | nil => exact absurd ⟨hb36, rfl⟩ h36
          | cons c r2 =>
            have hc : isSmall c = true := by
              cases hs : isSmall c with
              | true => rfl
              | false => exact absurd ⟨hb36, by rw [Lex.partL_cons, hs]; rfl⟩ h36
            have hbt1 : bt s 1 = (c.toNat : Int) := bt_drop (p := 1) h1
            simp only [List.length_cons] at hsz
            rw [if_neg (by omega), if_pos (by omega), hbt1, (ref_byte c).1, hc]
            rfl
        · rw [if_neg (fun h => hb36 (i36.1 h))]
      apply hj0
      have hl3 : isSmall b = false → ∀ n : Nat, Ev (fun k => majordomoref11_reach.l3 k s (b.toNat : Int) (n : Int)) (n : Int) := by
        intro hs n
        refine Ev.step (f := fun k => majordomoref11_reach.j8 k s (b.toNat : Int) (n : Int) false) (fun k => ?_) (Ev.step (f := fun _ => some (n : Int)) (fun k => ?_) (Ev.now _))
        · simp only [majordomoref11_reach.l3]
          rw [(ref_byte b).1, hs, Option.bind_some, if_neg (by decide)]
        · simp only [majordomoref11_reach.j8]
          rw [if_neg (by decide)]
      have hl2 := ev_reach_l2 s (b.toNat : Int) hz s.size 1 (by omega) (by omega)
      rw [h1] at hl2
      cases hd : isDig b with
      | true =>
        have := ev_reach_l1 s hz s.size 1 (by omega) (by omega)
        rw [h1] at this
        rw [if_pos rfl]
        refine Ev.step (fun k => ?_) this
        simp only [majordomoref11_reach.j2]
        rw [if_neg (by decide), (ref_byte b).2.1, hd, Option.bind_some, if_pos rfl]
        rfl
      | false =>
        rw [if_neg (by decide)]
        have hj2 : ∀ (X : Int) (y : Bool), (y = (isSmall b || decide (isGreat b = true ∨ b = 36))) → Ev (fun k => majordomoref11_reach.j4 k s (b.toNat : Int) 1 y) X → Ev (fun k => majordomoref11_reach.j2 k s (b.toNat : Int) false) X := by
          intro X y hy hX
          refine Ev.step (fun k => ?_) hX
          simp only [majordomoref11_reach.j2]
          rw [if_neg (by decide), (ref_byte b).2.1, hd, Option.bind_some, if_neg (by decide), (ref_byte b).1, Option.bind_some]
          cases hs : isSmall b with
          | true => rw [if_pos rfl, hy, hs]; rfl
          | false =>
            rw [hs, Bool.false_or] at hy
            rw [if_neg (by decide)]
            have hgi := great_int b
            by_cases h65 : (b.toNat : Int) ≥ 65
            · rw [if_pos h65]
              by_cases h90 : (b.toNat : Int) ≤ 90
              · rw [if_pos h90, decide_eq_true h90, hy, decide_eq_true (.inl (hgi.2 ⟨h65, h90⟩))]
              · rw [if_neg h90, hy]
                congr 1
                rw [Bool.eq_iff_iff, beq_iff_eq, decide_eq_true_eq]
                constructor
                · intro h; exact .inr (i36.1 h)
                · rintro (h | h)
                  · exact absurd (hgi.1 h).2 h90
                  · exact i36.2 h
            · rw [if_neg h65, hy]
              congr 1
              rw [Bool.eq_iff_iff, beq_iff_eq, decide_eq_true_eq]
              constructor
              · intro h; exact .inr (i36.1 h)
              · rintro (h | h)
                · exact absurd (hgi.1 h).1 h65
                · exact i36.2 h
        have hj4 : ∀ X, Ev (fun k => majordomoref11_reach.l2 k s (b.toNat : Int) ((1 : Nat) : Int)) X → Ev (fun k => majordomoref11_reach.j4 k s (b.toNat : Int) 1 true) X := by
          intro X hX
          refine Ev.step (fun k => ?_) hX
          simp only [majordomoref11_reach.j4]
          rw [if_pos trivial]
          rfl
        cases hs : isSmall b with
        | true =>
          rw [if_pos rfl]
          refine hj2 _ true (by rw [hs]; rfl) (hj4 _ (hl2 _ ?_))
          have hp : partL (b :: r) = 1 + runL r := by
            rw [Lex.partL_cons, hs, if_pos rfl]
            unfold Lex.runL
            rw [List.takeWhile_cons, if_pos (Lex.small_tail hs)]
            simp; omega
          have hle := Lex.runL_le r
          have := ev_reach_l3 s b hs hz (b :: r).length (1 + runL r) (by omega) (by omega) (by simp only [List.length_cons]; omega)
          unfold Lex.nameL
          rw [hp, ← hd0]
          rw [← hd0] at this
          exact this
        | false =>
          rw [if_neg (by decide)]
          by_cases hg : isGreat b = true ∨ b = 36
          · rw [if_pos hg]
            exact hj2 _ true (by rw [hs, decide_eq_true hg]; rfl) (hj4 _ (hl2 _ (hl3 hs _)))
          · rw [if_neg hg]
            refine hj2 _ false (by rw [hs, decide_eq_false hg]; rfl) ?_
            refine Ev.step (f := fun _ => some ((min 2 (r.length + 1) : Nat) : Int)) (fun k => ?_) (Ev.now _)
            simp only [majordomoref11_reach.j4]
            rw [if_neg (by decide)]
            congr 1
            unfold mn
            omega

/-! ### what a text is as a word -/
theorem name_no (b : UInt8) (r : List UInt8) (h : isSmall b = false) : nameS [] (b :: r) = false := by
  rw [nameS_is]
  have hp : partL (b :: r) = 0 := by rw [Lex.partL_cons, h]; rfl
  have : nameL (b :: r) = 0 := by
    unfold Lex.nameL
    rw [hp, List.length_cons, Lex.nameGo_succ, if_neg (fun h => absurd h.1 (by omega))]
  rw [this]
  simp
theorem type_no (b : UInt8) (r : List UInt8) (h : isGreat b = false) : typeB (b :: r) = false := by
  show (isGreat b && _) = false
  rw [h]
  rfl
/-- Where neither a name nor a type is. -/
theorem ev_word_on (X : ByteArray) (hz : X.size ≤ 65536) (b : UInt8) (r : List UInt8) (hd : X.data.toList = b :: r) (hs : isSmall b = false) (hg : isGreat b = false) {v : Int × ByteArray × Int}
    (h : Ev (fun k => majordomoref11_word.j0 k X (X.size : Int) (decide (b = 36) && partB r)) v) : Ev (fun k => majordomoref11_word.f k X) v := by
  have hsz : X.size = r.length + 1 := by rw [size_list, hd]; rfl
  have hbt : bt X 0 = (b.toNat : Int) := bt_head hd
  have hn := ev_ref_name X (by omega)
  have ht := ev_ref_type X (by omega)
  rw [hd, name_no b r hs] at hn
  rw [hd, type_no b r hg] at ht
  unfold majordomoref11_word.f
  refine Ev.bind hn ?_
  simp only [Bool.false_eq_true, if_false]
  refine Ev.bind ht ?_
  simp only [Bool.false_eq_true, if_false]
  have i36 : ((b.toNat : Int) = 36) ↔ b = 36 := byte_eq b 36 (by decide)
  by_cases h1 : r = []
  · subst h1
    simp only [List.length_nil] at hsz
    have e : (decide (b = 36) && partB []) = false := by simp [partB, headSmall]
    rw [e] at h
    refine Ev.congr (fun k => ?_) h
    rw [if_neg (by omega)]
  · have hr : 0 < r.length := List.length_pos_iff.2 h1
    by_cases h36 : b = 36
    · have hp := ev_ref_part (X.extract 1 X.size) (by rw [size_list, Lib.extract_to_end, List.length_drop, ← size_list]; omega)
      rw [Lib.extract_to_end, hd] at hp
      rw [decide_eq_true h36, Bool.true_and] at h
      refine Ev.congr (f := fun k => (majordomoref11_part.f k (X.extract 1 X.size)).bind fun t241 => (majordomoref11_word.j0 k X (X.size : Int) t241)) (fun k => ?_) (Ev.bind hp h)
      rw [if_pos (by omega), if_pos (by omega), hbt, if_pos (i36.2 h36), if_pos (by omega)]
    · rw [decide_eq_false h36, Bool.false_and] at h
      refine Ev.congr (fun k => ?_) h
      rw [if_pos (by omega), if_pos (by omega), hbt, if_neg (fun hh => h36 (i36.1 hh))]
/-- Neither quotes. -/
theorem ev_word_noq (X : ByteArray) (b : UInt8) (r : List UInt8) (hd : X.data.toList = b :: r) (h39 : b ≠ 39) (h34 : b ≠ 34) {v : Int × ByteArray × Int}
    (h : Ev (fun k => majordomoref11_word.j2 k X (X.size : Int)) v) : Ev (fun k => majordomoref11_word.j0 k X (X.size : Int) false) v := by
  have hsz : X.size = r.length + 1 := by rw [size_list, hd]; rfl
  have hbt : bt X 0 = (b.toNat : Int) := bt_head hd
  have i39 : ((b.toNat : Int) = 39) ↔ b = 39 := byte_eq b 39 (by decide)
  have i34 : ((b.toNat : Int) = 34) ↔ b = 34 := byte_eq b 34 (by decide)
  have hj1 : Ev (fun k => majordomoref11_word.j1 k X (X.size : Int) false) v := by
    refine Ev.step (fun k => ?_) h
    simp only [majordomoref11_word.j1]
    rw [if_neg (by decide)]
    by_cases h1 : r.length = 0
    · rw [if_neg (by omega)]
    · rw [if_pos (by omega), if_pos (by omega), hbt, if_neg (fun hh => h34 (i34.1 hh))]
  refine Ev.step (fun k => ?_) hj1
  simp only [majordomoref11_word.j0]
  rw [if_neg (by decide)]
  by_cases h1 : r.length = 0
  · rw [if_neg (by omega)]
  · rw [if_pos (by omega), if_pos (by omega), hbt, if_neg (fun hh => h39 (i39.1 hh))]
/-- No sign: digits, or nothing. -/
theorem ev_word_l0 (X : ByteArray) (hz : X.size ≤ 65536) : ∀ (d n : Nat), X.size - n ≤ d → n ≤ X.size → Ev (fun k => majordomoref11_word.l0 k X (X.size : Int) (n : Int)) (if (X.data.toList.drop n).all isDig && decide (0 < X.size) then ((6, X, 0) : Int × ByteArray × Int) else (0, ⟨#[]⟩, 0)) := by
  have hend : ∀ n : Nat, n = X.size → Ev (fun k => majordomoref11_word.l0 k X (X.size : Int) (n : Int)) (if (X.data.toList.drop n).all isDig && decide (0 < X.size) then ((6, X, 0) : Int × ByteArray × Int) else (0, ⟨#[]⟩, 0)) := by
    intro n hn
    rw [drop_end X n (by omega)]
    by_cases h0 : 0 < X.size
    · rw [decide_eq_true h0]
      refine Ev.step (f := fun _ => some (6, X, 0)) (fun k => ?_) (Ev.now _)
      simp only [majordomoref11_word.l0]
      rw [if_neg (by omega), if_pos (by omega)]
    · rw [decide_eq_false h0]
      refine Ev.step (f := fun _ => some (0, ⟨#[]⟩, 0)) (fun k => ?_) (Ev.now _)
      simp only [majordomoref11_word.l0]
      rw [if_neg (by omega), if_neg (by omega)]
  intro d
  induction d with
  | zero => intro n h1 h2; exact hend n (by omega)
  | succ d ih =>
    intro n h1 h2
    by_cases hlt : n < X.size
    · obtain ⟨b, r, hd, hb, hr⟩ := drop_cases X n hlt
      rw [hd, List.all_cons]
      cases ht : isDig b with
      | true =>
        have := ih (n + 1) (by omega) (by omega)
        rw [hr] at this
        rw [Bool.true_and]
        refine Ev.step (fun k => ?_) this
        simp only [majordomoref11_word.l0]
        rw [if_pos (by omega), if_pos (by omega), if_pos (by omega), hb, (ref_byte b).2.1, ht, Option.bind_some, if_pos rfl, w64 ((n : Int) + 1) ((n + 1 : Nat) : Int) (by omega) (by omega) (by omega)]
      | false =>
        simp only [Bool.false_and, Bool.false_eq_true, if_false]
        refine Ev.step (f := fun _ => some (0, ⟨#[]⟩, 0)) (fun k => ?_) (Ev.now _)
        simp only [majordomoref11_word.l0]
        rw [if_pos (by omega), if_pos (by omega), if_pos (by omega), hb, (ref_byte b).2.1, ht, Option.bind_some, if_neg (by decide)]
    · exact hend n (by omega)
theorem ev_word_j2 (X : ByteArray) (hz : X.size ≤ 65536) (hn : X.data.toList ∉ signs) : Ev (fun k => majordomoref11_word.j2 k X (X.size : Int)) (if X.data.toList.all isDig && decide (0 < X.size) then ((6, X, 0) : Int × ByteArray × Int) else (0, ⟨#[]⟩, 0)) := by
  have := ev_word_l0 X hz X.size 0 (by omega) (by omega)
  refine Ev.step (fun k => ?_) this
  simp only [majordomoref11_word.j2]
  simp only [ByteArray.toList_eq]
  have h : ∀ x ∈ signs, X.data.toList ≠ x := fun x hx he => hn (he ▸ hx)
  simp only [signs, List.mem_cons, List.not_mem_nil, or_false, forall_eq_or_imp, forall_eq] at h
  obtain ⟨a1, a2, a3, a4, a5, a6, a7, a8, a9, a10, a11, a12, a13, a14, a15⟩ := h
  simp only [if_neg a1, if_neg a2, if_neg a3, if_neg a4, if_neg a5, if_neg a6, if_neg a7, if_neg a8, if_neg a9, if_neg a10, if_neg a11, if_neg a12, if_neg a13, if_neg a14, if_neg a15]
  rfl
theorem word_signs : ∀ x ∈ signs, majordomoref11_word.f 60 ⟨x.toArray⟩ = some (7, ⟨x.toArray⟩, 0) := by decide +kernel
theorem word_empty : majordomoref11_word.f 60 ⟨#[]⟩ = some (0, ⟨#[]⟩, 0) := by decide +kernel
end Go.Proofs.YtjjhopcbipedaaaDoor.PX
