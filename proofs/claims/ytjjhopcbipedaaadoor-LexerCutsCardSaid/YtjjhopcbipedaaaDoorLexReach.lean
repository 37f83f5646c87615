/- The document's lexer (the reference): how far a word goes, words, texts. -/
import Derived.Test.YtjjhopcbipedaaaDoorLexRef
namespace Go.Proofs.YtjjhopcbipedaaaDoor.PX
open Go.RowKit Go.Proofs.YtjjhopcbipedaaaDoorW.PrintWords Go.Proofs.YtjjhopcbipedaaaDoorW.PrintLast Go.Proofs.YtjjhopcbipedaaaDoorW.PrintMore
open Lex (wordL lexF Lexes Tok comL idxL isBlank textOf isSmall isGreat isDig isTail partL nameL nameGo runL digL colons signL signs)

/-! ### how far -/
theorem tw_drop (p : UInt8 → Bool) (s : ByteArray) (n : Nat) (b : UInt8) (r : List UInt8) (hd : s.data.toList.drop n = b :: r) : ((s.data.toList.drop n).takeWhile p).length = if p b then (r.takeWhile p).length + 1 else 0 := by
  rw [hd, List.takeWhile_cons]
  split <;> simp
theorem ev_reach_l1 (s : ByteArray) (hz : s.size ≤ 65536) : ∀ (d n : Nat), s.size - n ≤ d → n ≤ s.size → Ev (fun k => majordomoref11_reach.l1 k s (n : Int)) ((n + digL (s.data.toList.drop n) : Nat) : Int) := by
  have hend : ∀ n : Nat, n = s.size → Ev (fun k => majordomoref11_reach.l1 k s (n : Int)) ((n + digL (s.data.toList.drop n) : Nat) : Int) := by
    intro n hn
    rw [drop_end s n (by omega)]
    refine Ev.step (f := fun _ => some (n : Int)) (fun k => ?_) (Ev.now _)
    simp only [majordomoref11_reach.l1]
    rw [if_neg (by omega)]
  intro d
  induction d with
  | zero => intro n h1 h2; exact hend n (by omega)
  | succ d ih =>
    intro n h1 h2
    by_cases hlt : n < s.size
    · obtain ⟨b, r, hd, hb, hr⟩ := drop_cases s n hlt
      have htw := tw_drop isDig s n b r hd
      cases ht : isDig b with
      | true =>
        rw [ht, if_pos rfl] at htw
        have := ih (n + 1) (by omega) (by omega)
        have e : n + 1 + digL (s.data.toList.drop (n + 1)) = n + digL (s.data.toList.drop n) := by unfold Lex.digL; rw [htw, hr]; omega
        rw [e] at this
        refine Ev.step (fun k => ?_) this
        simp only [majordomoref11_reach.l1]
        rw [if_pos (by omega), if_pos (by omega), hb, (ref_byte b).2.1, ht, Option.bind_some, if_pos rfl, w64 ((n : Int) + 1) ((n + 1 : Nat) : Int) (by omega) (by omega) (by omega)]
      | false =>
        rw [ht, if_neg (by decide)] at htw
        unfold Lex.digL
        rw [htw]
        refine Ev.step (f := fun _ => some (n : Int)) (fun k => ?_) (Ev.now _)
        simp only [majordomoref11_reach.l1]
        rw [if_pos (by omega), if_pos (by omega), hb, (ref_byte b).2.1, ht, Option.bind_some, if_neg (by decide)]
    · exact hend n (by omega)
theorem ev_reach_l2 (s : ByteArray) (c : Int) (hz : s.size ≤ 65536) : ∀ (d n : Nat), s.size - n ≤ d → n ≤ s.size → ∀ X, Ev (fun k => majordomoref11_reach.l3 k s c ((n + runL (s.data.toList.drop n) : Nat) : Int)) X → Ev (fun k => majordomoref11_reach.l2 k s c (n : Int)) X := by
  have hend : ∀ n : Nat, (n + runL (s.data.toList.drop n) = n) → (∀ k, majordomoref11_reach.l2 (k + 1) s c (n : Int) = majordomoref11_reach.j6 k s c (n : Int)) → ∀ X, Ev (fun k => majordomoref11_reach.l3 k s c ((n + runL (s.data.toList.drop n) : Nat) : Int)) X → Ev (fun k => majordomoref11_reach.l2 k s c (n : Int)) X := by
    intro n hn hk X hX
    rw [hn] at hX
    refine Ev.step hk (Ev.step (fun k => ?_) hX)
    simp only [majordomoref11_reach.j6]
  intro d
  induction d with
  | zero =>
    intro n h1 h2
    refine hend n (by rw [drop_end s n (by omega)]; rfl) (fun k => ?_)
    simp only [majordomoref11_reach.l2]
    rw [if_neg (by omega)]
  | succ d ih =>
    intro n h1 h2
    by_cases hlt : n < s.size
    · obtain ⟨b, r, hd, hb, hr⟩ := drop_cases s n hlt
      have htw := tw_drop isTail s n b r hd
      cases ht : isTail b with
      | true =>
        rw [ht, if_pos rfl] at htw
        intro X hX
        have := ih (n + 1) (by omega) (by omega) X
        have e : n + 1 + runL (s.data.toList.drop (n + 1)) = n + runL (s.data.toList.drop n) := by unfold Lex.runL; rw [htw, hr]; omega
        rw [e] at this
        refine Ev.step (fun k => ?_) (this hX)
        simp only [majordomoref11_reach.l2]
        rw [if_pos (by omega), if_pos (by omega), hb, (ref_byte b).2.2, ht, Option.bind_some, if_pos rfl, w64 ((n : Int) + 1) ((n + 1 : Nat) : Int) (by omega) (by omega) (by omega)]
      | false =>
        rw [ht, if_neg (by decide)] at htw
        refine hend n (by unfold Lex.runL; rw [htw]; rfl) (fun k => ?_)
        simp only [majordomoref11_reach.l2]
        rw [if_pos (by omega), if_pos (by omega), hb, (ref_byte b).2.2, ht, Option.bind_some, if_neg (by decide)]
    · refine hend n (by rw [drop_end s n (by omega)]; rfl) (fun k => ?_)
      simp only [majordomoref11_reach.l2]
      rw [if_neg (by omega)]
theorem ev_reach_l4 (s : ByteArray) (c : Int) (hz : s.size ≤ 65536) : ∀ (d n : Nat), s.size - n ≤ d → n ≤ s.size → ∀ X, Ev (fun k => majordomoref11_reach.l3 k s c ((n + runL (s.data.toList.drop n) : Nat) : Int)) X → Ev (fun k => majordomoref11_reach.l4 k s c (n : Int)) X := by
  have hend : ∀ n : Nat, (n + runL (s.data.toList.drop n) = n) → (∀ k, majordomoref11_reach.l4 (k + 1) s c (n : Int) = majordomoref11_reach.l3 k s c (n : Int)) → ∀ X, Ev (fun k => majordomoref11_reach.l3 k s c ((n + runL (s.data.toList.drop n) : Nat) : Int)) X → Ev (fun k => majordomoref11_reach.l4 k s c (n : Int)) X := by
    intro n hn hk X hX
    rw [hn] at hX
    exact Ev.step hk hX
  intro d
  induction d with
  | zero =>
    intro n h1 h2
    refine hend n (by rw [drop_end s n (by omega)]; rfl) (fun k => ?_)
    simp only [majordomoref11_reach.l4]
    rw [if_neg (by omega)]
  | succ d ih =>
    intro n h1 h2
    by_cases hlt : n < s.size
    · obtain ⟨b, r, hd, hb, hr⟩ := drop_cases s n hlt
      have htw := tw_drop isTail s n b r hd
      cases ht : isTail b with
      | true =>
        rw [ht, if_pos rfl] at htw
        intro X hX
        have := ih (n + 1) (by omega) (by omega) X
        have e : n + 1 + runL (s.data.toList.drop (n + 1)) = n + runL (s.data.toList.drop n) := by unfold Lex.runL; rw [htw, hr]; omega
        rw [e] at this
        refine Ev.step (fun k => ?_) (this hX)
        simp only [majordomoref11_reach.l4]
        rw [if_pos (by omega), if_pos (by omega), hb, (ref_byte b).2.2, ht, Option.bind_some, if_pos rfl, w64 ((n : Int) + 1) ((n + 1 : Nat) : Int) (by omega) (by omega) (by omega)]
      | false =>
        rw [ht, if_neg (by decide)] at htw
        refine hend n (by unfold Lex.runL; rw [htw]; rfl) (fun k => ?_)
        simp only [majordomoref11_reach.l4]
        rw [if_pos (by omega), if_pos (by omega), hb, (ref_byte b).2.2, ht, Option.bind_some, if_neg (by decide)]
    · refine hend n (by rw [drop_end s n (by omega)]; rfl) (fun k => ?_)
      simp only [majordomoref11_reach.l4]
      rw [if_neg (by omega)]
/-- The parts of a name. -/
theorem ev_reach_l3 (s : ByteArray) (c : UInt8) (hs : isSmall c = true) (hz : s.size ≤ 65536) : ∀ (f n : Nat), 0 < n → n ≤ s.size → s.size ≤ f + n → Ev (fun k => majordomoref11_reach.l3 k s (c.toNat : Int) (n : Int)) (nameGo f s.data.toList n : Int) := by
  have hl := size_list s
  have hstop : ∀ n : Nat, Ev (fun k => majordomoref11_reach.j8 k s (c.toNat : Int) (n : Int) false) (n : Int) := by
    intro n
    refine Ev.step (f := fun _ => some (n : Int)) (fun k => ?_) (Ev.now _)
    simp only [majordomoref11_reach.j8]
    rw [if_neg (by decide)]
  intro f
  induction f with
  | zero =>
    intro n h0 h1 h2
    refine Ev.step (fun k => ?_) (hstop n)
    simp only [majordomoref11_reach.l3]
    rw [(ref_byte c).1, hs, Option.bind_some, if_pos rfl, w64 ((n : Int) + 2) ((n + 2 : Nat) : Int) (by omega) (by omega) (by omega), if_neg (by omega)]
  | succ f ih =>
    intro n h0 h1 h2
    rw [Lex.nameGo_succ]
    by_cases hlt : n + 2 < s.size
    · obtain ⟨a, r1, hd1, hb1, hr1⟩ := drop_cases s n (by omega)
      obtain ⟨b, r2, hd2, hb2, hr2⟩ := drop_cases s (n + 1) (by omega)
      obtain ⟨e, r3, hd3, hb3, hr3⟩ := drop_cases s (n + 2) (by omega)
      have hr2' : s.data.toList.drop (n + 2) = r2 := hr2
      rw [hd2] at hr1
      rw [hd3] at hr2'
      subst hr1 hr2'
      have hcol : colons (s.data.toList.drop n) = decide (a = 58 ∧ b = 58) := by
        rw [hd1]
        by_cases hc : a = 58 ∧ b = 58
        · obtain ⟨rfl, rfl⟩ := hc; rfl
        · rw [decide_eq_false hc]
          unfold Lex.colons
          split
          · rename_i he
            simp only [List.cons.injEq] at he
            exact absurd ⟨he.1, he.2.1⟩ hc
          · rfl
      have hunf : ∀ k, majordomoref11_reach.l3 (k + 1) s (c.toNat : Int) (n : Int) = majordomoref11_reach.j8 k s (c.toNat : Int) (n : Int) (decide (a = 58 ∧ b = 58) && isSmall e) := by
        intro k
        simp only [majordomoref11_reach.l3]
        rw [(ref_byte c).1, hs, Option.bind_some, if_pos rfl, w64 ((n : Int) + 2) ((n + 2 : Nat) : Int) (by omega) (by omega) (by omega), if_pos (by omega), if_pos (by omega), if_pos (by omega), hb1]
        by_cases ha : a = 58
        · rw [if_pos (show (a.toNat : Int) = 58 by rw [ha]; rfl), w64 ((n : Int) + 1) ((n + 1 : Nat) : Int) (by omega) (by omega) (by omega), if_pos (by omega), if_pos (by omega), hb2]
          by_cases hb : b = 58
          · rw [if_pos (show (b.toNat : Int) = 58 by rw [hb]; rfl), if_pos (by omega), hb3, (ref_byte e).1, Option.bind_some, decide_eq_true ⟨ha, hb⟩, Bool.true_and]
          · rw [if_neg (show ¬ ((b.toNat : Int) = 58) from fun h => hb ((byte_eq b 58 (by decide)).1 h)), decide_eq_false (fun h => hb h.2), Bool.false_and]
        · rw [if_neg (show ¬ ((a.toNat : Int) = 58) from fun h => ha ((byte_eq a 58 (by decide)).1 h)), decide_eq_false (fun h => ha h.1), Bool.false_and]
      refine Ev.step hunf ?_
      rw [hd3]
      by_cases hc : a = 58 ∧ b = 58
      · rw [hcol, decide_eq_true hc, if_pos ⟨h0, rfl⟩, Bool.true_and]
        cases hse : isSmall e with
        | false =>
          have : partL (e :: r3) = 0 := by rw [Lex.partL_cons, hse]; rfl
          rw [if_pos this]
          exact hstop n
        | true =>
          have hp := Lex.partL_pos (r := r3) hse
          have hpe : partL (e :: r3) = 1 + runL r3 := by
            rw [Lex.partL_cons, hse, if_pos rfl]
            unfold Lex.runL
            rw [List.takeWhile_cons, if_pos (Lex.small_tail hse)]
            simp; omega
          have hle := Lex.runL_le r3
          have hr3l := congrArg List.length hd3
          simp only [List.length_drop, List.length_cons] at hr3l
          rw [if_neg (by omega)]
          have hr3' : s.data.toList.drop (n + 3) = r3 := hr3
          have hl4 := ev_reach_l4 s (c.toNat : Int) hz s.size (n + 3) (by omega) (by omega)
          rw [hr3'] at hl4
          have hnext := ih (n + 2 + partL (e :: r3)) (by omega) (by omega) (by omega)
          have en : n + 3 + runL r3 = n + 2 + partL (e :: r3) := by omega
          rw [en] at hl4
          refine Ev.step (fun k => ?_) (hl4 _ hnext)
          simp only [majordomoref11_reach.j8]
          rw [if_pos trivial, w64 ((n : Int) + 3) ((n + 3 : Nat) : Int) (by omega) (by omega) (by omega)]
      · rw [hcol, decide_eq_false hc, Bool.false_and, if_neg (by simp)]
        exact hstop n
    · have hno : ¬ (0 < n ∧ colons (s.data.toList.drop n) = true) ∨ partL (s.data.toList.drop (n + 2)) = 0 := by
        by_cases h3 : n + 2 = s.size
        · right; rw [drop_end s _ (by omega)]; rfl
        · left
          rintro ⟨-, hc⟩
          have := Lex.colons_two hc
          simp only [List.length_drop] at this
          omega
      have hX : (if 0 < n ∧ colons (s.data.toList.drop n) = true then (if partL (s.data.toList.drop (n + 2)) = 0 then n else nameGo f s.data.toList (n + 2 + partL (s.data.toList.drop (n + 2)))) else n) = n := by
        rcases hno with h | h
        · rw [if_neg h]
        · rw [if_pos h]; split <;> rfl
      rw [hX]
      refine Ev.step (fun k => ?_) (hstop n)
      simp only [majordomoref11_reach.l3]
      rw [(ref_byte c).1, hs, Option.bind_some, if_pos rfl, w64 ((n : Int) + 2) ((n + 2 : Nat) : Int) (by omega) (by omega) (by omega), if_neg (by omega)]
theorem ev_reach_q (s : ByteArray) (c : UInt8) (hz : s.size ≤ 65536) : ∀ (d n : Nat), s.size - n ≤ d → n ≤ s.size → Ev (fun k => majordomoref11_reach.l0 k s (c.toNat : Int) (n : Int)) (match idxL (s.data.toList.drop n) c with | none => 0 | some i => ((n + i + 1 : Nat) : Int)) := by
  have hend : ∀ n : Nat, n = s.size → Ev (fun k => majordomoref11_reach.l0 k s (c.toNat : Int) (n : Int)) (match idxL (s.data.toList.drop n) c with | none => 0 | some i => ((n + i + 1 : Nat) : Int)) := by
    intro n hn
    rw [drop_end s n (by omega)]
    refine Ev.step (f := fun _ => some 0) (fun k => ?_) (Ev.now _)
    simp only [majordomoref11_reach.l0]
    rw [if_neg (by omega)]
  intro d
  induction d with
  | zero => intro n h1 h2; exact hend n (by omega)
  | succ d ih =>
    intro n h1 h2
    by_cases hlt : n < s.size
    · obtain ⟨b, r, hd, hb, hr⟩ := drop_cases s n hlt
      rw [hd, Lex.idxL_cons]
      by_cases hbc : b = c
      · subst hbc
        rw [if_pos (by simp)]
        refine Ev.step (f := fun _ => some ((n + 0 + 1 : Nat) : Int)) (fun k => ?_) (Ev.now _)
        simp only [majordomoref11_reach.l0]
        rw [if_pos (by omega), if_pos (by omega), hb, if_pos rfl, w64 ((n : Int) + 1) ((n + 0 + 1 : Nat) : Int) (by omega) (by omega) (by omega)]
      · have := ih (n + 1) (by omega) (by omega)
        rw [hr] at this
        have hne : ¬ ((b == c) = true) := by simpa using hbc
        rw [if_neg hne]
        have e : (match (idxL r c).map (· + 1) with | none => (0 : Int) | some i => ((n + i + 1 : Nat) : Int)) = (match idxL r c with | none => 0 | some i => ((n + 1 + i + 1 : Nat) : Int)) := by
          cases idxL r c with
          | none => rfl
          | some i => simp only [Option.map_some]; congr 1; omega
        rw [e]
        refine Ev.step (fun k => ?_) this
        simp only [majordomoref11_reach.l0]
        rw [if_pos (by omega), if_pos (by omega), hb, if_neg (fun h => hbc (UInt8.toNat_inj.1 (Int.ofNat_inj.1 h))), w64 ((n : Int) + 1) ((n + 1 : Nat) : Int) (by omega) (by omega) (by omega)]
    · exact hend n (by omega)
/-- How far a word goes at the most. -/
def reachL : List UInt8 → Nat
  | [] => 0
  | b :: r =>
    if b = 39 ∨ b = 34 then (match idxL r b with | none => 0 | some i => i + 2)
    else if b = 36 ∧ partL r = 0 then 0
    else if isDig b then 1 + digL r
    else if isSmall b then nameL (b :: r)
    else if isGreat b ∨ b = 36 then 1 + runL r
    else min 2 (r.length + 1)
theorem reachL_cons (b : UInt8) (r : List UInt8) : reachL (b :: r) =
    if b = 39 ∨ b = 34 then (match idxL r b with | none => 0 | some i => i + 2)
    else if b = 36 ∧ partL r = 0 then 0
    else if isDig b then 1 + digL r
    else if isSmall b then nameL (b :: r)
    else if isGreat b ∨ b = 36 then 1 + runL r
    else min 2 (r.length + 1) := rfl
end Go.Proofs.YtjjhopcbipedaaaDoor.PX
