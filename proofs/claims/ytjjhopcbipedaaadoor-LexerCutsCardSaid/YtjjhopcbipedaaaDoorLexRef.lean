/- The document's lexer (the reference), as the plain law has it: names, types, how far a word goes, words, texts. -/
import Derived.Test.YtjjhopcbipedaaaDoorLexMore
import Derived.Test.YtjjhopcbipedaaaDoorPXx14
namespace Go.Proofs.YtjjhopcbipedaaaDoor.PX
open Go.RowKit Go.Proofs.YtjjhopcbipedaaaDoorW.PrintWords Go.Proofs.YtjjhopcbipedaaaDoorW.PrintLast Go.Proofs.YtjjhopcbipedaaaDoorW.PrintMore
open Lex (wordL lexF Lexes Tok comL idxL isBlank textOf isSmall isGreat isDig isTail partL nameL nameGo runL digL colons signL signs)

/-! ### bytes -/
theorem ref_bytes : ∀ n : Fin 256, majordomoref11_small.f (n.val : Int) = some (isSmall (UInt8.ofNat n.val)) ∧ majordomoref11_digit.f (n.val : Int) = some (isDig (UInt8.ofNat n.val)) ∧ majordomoref11_tail.f (n.val : Int) = some (isTail (UInt8.ofNat n.val)) := by decide +kernel
theorem ref_byte (b : UInt8) : majordomoref11_small.f (b.toNat : Int) = some (isSmall b) ∧ majordomoref11_digit.f (b.toNat : Int) = some (isDig b) ∧ majordomoref11_tail.f (b.toNat : Int) = some (isTail b) := by
  have h := ref_bytes ⟨b.toNat, b.toNat_lt⟩
  simpa using h
theorem drop_cases (s : ByteArray) (p : Nat) (h : p < s.size) : ∃ b r, s.data.toList.drop p = b :: r ∧ bt s (p : Int) = (b.toNat : Int) ∧ s.data.toList.drop (p + 1) = r := by
  have hl := size_list s
  cases hd : s.data.toList.drop p with
  | nil =>
    have := congrArg List.length hd
    simp only [List.length_drop, List.length_nil] at this
    omega
  | cons b r => exact ⟨b, r, rfl, bt_drop hd, by rw [← List.drop_drop, hd]; rfl⟩
theorem drop_end (s : ByteArray) (p : Nat) (h : s.size ≤ p) : s.data.toList.drop p = [] := by
  rw [List.drop_eq_nil_iff, ← size_list]; exact h
theorem byte_eq (b : UInt8) (x : Nat) (hx : x < 256) : ((b.toNat : Int) = (x : Int)) ↔ b = UInt8.ofNat x :=
  ⟨fun h => UInt8.toNat_inj.1 (by rw [UInt8.toNat_ofNat_of_lt' (by simpa using hx)]; omega), fun h => by rw [h, UInt8.toNat_ofNat_of_lt' (by simpa using hx)]⟩

/-! ### a name's part, a type -/
def headSmall : List UInt8 → Bool
  | [] => false
  | b :: _ => isSmall b
def headGreat : List UInt8 → Bool
  | [] => false
  | b :: _ => isGreat b
def partB (l : List UInt8) : Bool := headSmall l && (l.drop 1).all isTail
def typeB (l : List UInt8) : Bool := headGreat l && (l.drop 1).all isTail
theorem ev_ref_part_l0 (s : ByteArray) (hz : s.size ≤ 4611686018427387904) : ∀ (d p : Nat), s.size - p ≤ d → Ev (fun k => majordomoref11_part.l0 k s (p : Int)) (headSmall s.data.toList && (s.data.toList.drop p).all isTail) := by
  have hend : ∀ p : Nat, s.size ≤ p → Ev (fun k => majordomoref11_part.l0 k s (p : Int)) (headSmall s.data.toList && (s.data.toList.drop p).all isTail) := by
    intro p hp
    rw [drop_end s p hp, List.all_nil, Bool.and_true]
    by_cases h0 : 0 < s.size
    · obtain ⟨b, r, hd, hb, -⟩ := drop_cases s 0 h0
      simp only [List.drop_zero] at hd
      refine Ev.step (f := fun _ => some (isSmall b)) (fun k => ?_) ?_
      · simp only [majordomoref11_part.l0]
        rw [if_neg (by omega), if_pos (by omega), if_pos (by omega)]
        have hb' : bt s 0 = (b.toNat : Int) := hb
        rw [hb', (ref_byte b).1]
        rfl
      · rw [hd]
        exact Ev.now _
    · have : s.data.toList = [] := List.length_eq_zero_iff.1 (by rw [← size_list]; omega)
      refine Ev.step (f := fun _ => some false) (fun k => ?_) ?_
      · simp only [majordomoref11_part.l0]
        rw [if_neg (by omega), if_neg (by omega)]
      · rw [this]
        exact Ev.now _
  intro d
  induction d with
  | zero => intro p hp; exact hend p (by omega)
  | succ d ih =>
    intro p hp
    by_cases hlt : p < s.size
    · obtain ⟨b, r, hd, hb, hr⟩ := drop_cases s p hlt
      cases ht : isTail b with
      | true =>
        have := ih (p + 1) (by omega)
        rw [hr] at this
        rw [hd, List.all_cons, ht, Bool.true_and]
        refine Ev.step (fun k => ?_) this
        simp only [majordomoref11_part.l0]
        rw [if_pos (by omega), if_pos (by omega), hb, (ref_byte b).2.2, ht, Option.bind_some, if_pos rfl, w64 ((p : Int) + 1) ((p + 1 : Nat) : Int) (by omega) (by omega) (by omega)]
      | false =>
        rw [hd, List.all_cons, ht, Bool.false_and, Bool.and_false]
        refine Ev.step (f := fun _ => some false) (fun k => ?_) (Ev.now _)
        simp only [majordomoref11_part.l0]
        rw [if_pos (by omega), if_pos (by omega), hb, (ref_byte b).2.2, ht, Option.bind_some, if_neg (by decide)]
    · exact hend p (by omega)
theorem ev_ref_part (s : ByteArray) (hz : s.size ≤ 4611686018427387904) : Ev (fun k => majordomoref11_part.f k s) (partB s.data.toList) := by
  have := ev_ref_part_l0 s hz s.size 1 (by omega)
  exact this
theorem great_dec (b : UInt8) : (if (b.toNat : Int) ≥ 65 then some (decide ((b.toNat : Int) ≤ 90)) else some false) = some (isGreat b) := by
  have h : ∀ n : Fin 256, (if (n.val : Int) ≥ 65 then some (decide ((n.val : Int) ≤ 90)) else some false) = some (isGreat (UInt8.ofNat n.val)) := by decide +kernel
  simpa using h ⟨b.toNat, b.toNat_lt⟩
theorem ev_ref_type_l0 (s : ByteArray) (hz : s.size ≤ 4611686018427387904) : ∀ (d p : Nat), s.size - p ≤ d → Ev (fun k => majordomoref11_Type.l0 k s (p : Int)) (headGreat s.data.toList && (s.data.toList.drop p).all isTail) := by
  have hend : ∀ p : Nat, s.size ≤ p → Ev (fun k => majordomoref11_Type.l0 k s (p : Int)) (headGreat s.data.toList && (s.data.toList.drop p).all isTail) := by
    intro p hp
    rw [drop_end s p hp, List.all_nil, Bool.and_true]
    by_cases h0 : 0 < s.size
    · obtain ⟨b, r, hd, hb, -⟩ := drop_cases s 0 h0
      simp only [List.drop_zero] at hd
      refine Ev.step (f := fun _ => some (isGreat b)) (fun k => ?_) ?_
      · simp only [majordomoref11_Type.l0]
        rw [if_neg (by omega), if_pos (by omega), if_pos (by omega)]
        have hb' : bt s 0 = (b.toNat : Int) := hb
        rw [hb', great_dec]
      · rw [hd]
        exact Ev.now _
    · have : s.data.toList = [] := List.length_eq_zero_iff.1 (by rw [← size_list]; omega)
      refine Ev.step (f := fun _ => some false) (fun k => ?_) ?_
      · simp only [majordomoref11_Type.l0]
        rw [if_neg (by omega), if_neg (by omega)]
      · rw [this]
        exact Ev.now _
  intro d
  induction d with
  | zero => intro p hp; exact hend p (by omega)
  | succ d ih =>
    intro p hp
    by_cases hlt : p < s.size
    · obtain ⟨b, r, hd, hb, hr⟩ := drop_cases s p hlt
      cases ht : isTail b with
      | true =>
        have := ih (p + 1) (by omega)
        rw [hr] at this
        rw [hd, List.all_cons, ht, Bool.true_and]
        refine Ev.step (fun k => ?_) this
        simp only [majordomoref11_Type.l0]
        rw [if_pos (by omega), if_pos (by omega), hb, (ref_byte b).2.2, ht, Option.bind_some, if_pos rfl, w64 ((p : Int) + 1) ((p + 1 : Nat) : Int) (by omega) (by omega) (by omega)]
      | false =>
        rw [hd, List.all_cons, ht, Bool.false_and, Bool.and_false]
        refine Ev.step (f := fun _ => some false) (fun k => ?_) (Ev.now _)
        simp only [majordomoref11_Type.l0]
        rw [if_pos (by omega), if_pos (by omega), hb, (ref_byte b).2.2, ht, Option.bind_some, if_neg (by decide)]
    · exact hend p (by omega)
theorem ev_ref_type (s : ByteArray) (hz : s.size ≤ 4611686018427387904) : Ev (fun k => majordomoref11_Type.f k s) (typeB s.data.toList) := by
  have := ev_ref_type_l0 s hz s.size 1 (by omega)
  exact this

/-! ### names -/
def nameS : List UInt8 → List UInt8 → Bool
  | cur, [] => partB cur
  | cur, [b] => partB (cur ++ [b])
  | cur, a :: b :: t => if a = 58 ∧ b = 58 then (partB cur && nameS [] t) else nameS (cur ++ [a]) (b :: t)
termination_by _ r => r.length
theorem ev_ref_name_l0 (s : ByteArray) (hz : s.size ≤ 4611686018427387904) : ∀ (d p q : Nat), s.size - q ≤ d → p ≤ q → q ≤ s.size → Ev (fun k => majordomoref11_Name.l0 k s (p : Int) (q : Int)) (nameS ((s.data.toList.take q).drop p) (s.data.toList.drop q)) := by
  have hl := size_list s
  have hend : ∀ p q : Nat, p ≤ q → q ≤ s.size → s.size ≤ q + 1 → Ev (fun k => majordomoref11_Name.l0 k s (p : Int) (q : Int)) (nameS ((s.data.toList.take q).drop p) (s.data.toList.drop q)) := by
    intro p q h1 h2 h3
    have e : nameS ((s.data.toList.take q).drop p) (s.data.toList.drop q) = partB (s.data.toList.drop p) := by
      have e2 : (s.data.toList.take q).drop p ++ s.data.toList.drop q = s.data.toList.drop p := by
        rw [List.drop_take]
        have := List.take_append_drop (q - p) (s.data.toList.drop p)
        rw [List.drop_drop, show p + (q - p) = q by omega] at this
        exact this
      cases hd : s.data.toList.drop q with
      | nil => rw [hd, List.append_nil] at e2; rw [nameS, e2]
      | cons b r =>
        have : r = [] := by
          have := congrArg List.length hd
          simp only [List.length_drop, List.length_cons] at this
          exact List.length_eq_zero_iff.1 (by omega)
        subst this
        rw [hd] at e2
        rw [nameS, e2]
    rw [e]
    have hp := ev_ref_part (s.extract p s.size) (by rw [size_list, Lib.extract_to_end, List.length_drop, ← hl]; omega)
    rw [Lib.extract_to_end] at hp
    refine Ev.step (f := fun k => (majordomoref11_part.f k (s.extract p s.size)).bind fun t => some t) (fun k => ?_) (Ev.bind hp (Ev.now _))
    simp only [majordomoref11_Name.l0]
    rw [w64 ((q : Int) + 1) ((q + 1 : Nat) : Int) (by omega) (by omega) (by omega), if_neg (by omega), if_pos (by omega), if_pos (by omega), Int.toNat_natCast]
  intro d
  induction d using Nat.strongRecOn with
  | _ d ih =>
    intro p q hd h1 h2
    by_cases hlt : q + 1 < s.size
    · obtain ⟨a, r, hda, hba, hr⟩ := drop_cases s q (by omega)
      obtain ⟨b, t, hdb, hbb, ht⟩ := drop_cases s (q + 1) hlt
      rw [hdb] at hr
      subst hr
      have hstep : ∀ X : Bool, Ev (fun k => majordomoref11_Name.j1 k s (p : Int) (q : Int) (decide (a = 58 ∧ b = 58))) X → Ev (fun k => majordomoref11_Name.l0 k s (p : Int) (q : Int)) X := by
        intro X hX
        refine Ev.step (fun k => ?_) hX
        simp only [majordomoref11_Name.l0]
        rw [w64 ((q : Int) + 1) ((q + 1 : Nat) : Int) (by omega) (by omega) (by omega), if_pos (by omega), if_pos (by omega), if_pos (by omega), hba, hbb]
        by_cases ha : a = 58
        · rw [if_pos (show (a.toNat : Int) = 58 by rw [ha]; rfl), if_pos (by omega)]
          congr 1
          by_cases hb : b = 58
          · rw [decide_eq_true ⟨ha, hb⟩, hb]; rfl
          · rw [decide_eq_false (fun h => hb h.2)]
            rw [beq_eq_false_iff_ne]
            exact fun h => hb ((byte_eq b 58 (by decide)).1 h)
        · rw [if_neg (show ¬ ((a.toNat : Int) = 58) from fun h => ha ((byte_eq a 58 (by decide)).1 h)), decide_eq_false (fun h => ha h.1)]
      rw [hda, nameS]
      apply hstep
      by_cases hc : a = 58 ∧ b = 58
      · rw [if_pos hc, decide_eq_true hc]
        have hp := ev_ref_part (s.extract p q) (by rw [size_list, Lib.extract_data, List.length_take, List.length_drop, ← hl]; omega)
        have ex : (s.extract p q).data.toList = (s.data.toList.take q).drop p := by rw [Lib.extract_data, List.drop_take]
        rw [ex] at hp
        refine Ev.step (f := fun k => (majordomoref11_part.f k (s.extract p q)).bind fun t236 => (if t236 = true then (majordomoref11_Name.l0 k s ((q + 2 : Nat) : Int) ((q + 2 : Nat) : Int)) else (some false))) (fun k => ?_) (Ev.bind hp ?_)
        · simp only [majordomoref11_Name.j1]
          rw [if_pos trivial, if_pos (by omega), if_pos (by omega), if_pos (by omega), Int.toNat_natCast, Int.toNat_natCast, w64 ((q : Int) + 2) ((q + 2 : Nat) : Int) (by omega) (by omega) (by omega), w64 ((q : Int) + 1) ((q + 1 : Nat) : Int) (by omega) (by omega) (by omega), w64 (((q + 1 : Nat) : Int) + 1) ((q + 2 : Nat) : Int) (by omega) (by omega) (by omega)]
        · cases partB ((s.data.toList.take q).drop p) with
          | false => exact Ev.now _
          | true =>
            have := ih (s.size - (q + 2)) (by omega) (q + 2) (q + 2) (by omega) (by omega) (by omega)
            have e1 : (s.data.toList.take (q + 2)).drop (q + 2) = [] := by rw [List.drop_eq_nil_iff, List.length_take]; omega
            have e2 : s.data.toList.drop (q + 2) = t := ht
            rw [e1, e2] at this
            rw [Bool.true_and]
            exact this
      · rw [if_neg hc, decide_eq_false hc]
        have := ih (s.size - (q + 1)) (by omega) p (q + 1) (by omega) (by omega) (by omega)
        have e1 : (s.data.toList.take (q + 1)).drop p = (s.data.toList.take q).drop p ++ [a] := by
          have hg : s.data.toList[q]? = some a := by
            have := congrArg (fun l => l[0]?) hda
            simpa using this
          rw [List.take_add_one, hg, List.drop_append_of_le_length (by rw [List.length_take]; omega)]
          rfl
        rw [e1, hdb] at this
        refine Ev.step (fun k => ?_) this
        simp only [majordomoref11_Name.j1]
        rw [if_neg (by decide), w64 ((q : Int) + 1) ((q + 1 : Nat) : Int) (by omega) (by omega) (by omega)]
    · exact hend p q h1 h2 (by omega)
theorem ev_ref_name (s : ByteArray) (hz : s.size ≤ 4611686018427387904) : Ev (fun k => majordomoref11_Name.f k s) (nameS [] s.data.toList) := by
  have := ev_ref_name_l0 s hz s.size 0 0 (by omega) (by omega) (by omega)
  exact this

/-! ### what a name is, in the two ways -/
theorem partB_iff (l : List UInt8) : partB l = (decide (l ≠ []) && decide (partL l = l.length)) := by
  cases l with
  | nil => rfl
  | cons b r =>
    rw [Lex.partL_cons]
    unfold partB headSmall
    simp only [List.drop_succ_cons, List.drop_zero]
    cases hs : isSmall b with
    | false => simp
    | true =>
      simp only [Bool.true_and, if_true, ne_eq, reduceCtorEq, not_false_eq_true, decide_true]
      unfold Lex.runL
      rw [List.takeWhile_cons, if_pos (Lex.small_tail hs), List.length_cons, List.length_cons]
      rw [Bool.eq_iff_iff, List.all_eq_true, decide_eq_true_eq]
      constructor
      · intro h
        have e : r.takeWhile isTail = r := by
          have : ∀ l : List UInt8, (∀ b ∈ l, isTail b = true) → l.takeWhile isTail = l := by
            intro l
            induction l with
            | nil => intro _; rfl
            | cons b l ih => intro hl; rw [List.takeWhile_cons, hl b (by simp), if_pos rfl, ih (fun x hx => hl x (by simp [hx]))]
          exact this r h
        rw [e]
      · intro h b hb
        have e : r.takeWhile isTail = r := (List.takeWhile_prefix isTail).eq_of_length (by omega)
        rw [← e] at hb
        have : ∀ l : List UInt8, ∀ b ∈ l.takeWhile isTail, isTail b = true := by
          intro l
          induction l with
          | nil => intro b hb; cases hb
          | cons x l ih =>
            intro b hb
            rw [List.takeWhile_cons] at hb
            split at hb
            · rcases List.mem_cons.1 hb with rfl | hb
              · assumption
              · exact ih b hb
            · cases hb
        exact this r b hb
theorem partB_cons_bad (l x : List UInt8) (h1 : l ≠ []) (h : partB l = false) : partB (l ++ x) = false := by
  cases l with
  | nil => exact absurd rfl h1
  | cons b r =>
    unfold partB headSmall at h ⊢
    simp only [List.cons_append, List.drop_succ_cons, List.drop_zero, List.all_append] at h ⊢
    cases hs : isSmall b with
    | false => rfl
    | true =>
      rw [hs, Bool.true_and] at h
      rw [h]
      rfl
theorem nameS_bad : ∀ (n : Nat) (r l : List UInt8), r.length ≤ n → l ≠ [] → partB l = false → nameS l r = false
  | _, [], l, _, h1, h => by rw [nameS]; exact h
  | _, [b], l, _, h1, h => by rw [nameS]; exact partB_cons_bad l [b] h1 h
  | 0, a :: b :: t, l, hn, _, _ => by simp at hn
  | n + 1, a :: b :: t, l, hn, h1, h => by
    rw [nameS]
    split
    · rw [h]; rfl
    · exact nameS_bad n (b :: t) (l ++ [a]) (by simp only [List.length_cons] at hn ⊢; omega) (by simp) (partB_cons_bad l [a] h1 h)
theorem nameS_step (l r : List UInt8) (a : UInt8) (h : a ≠ 58) : nameS l (a :: r) = nameS (l ++ [a]) r := by
  cases r with
  | nil => rw [nameS, nameS]
  | cons b t => rw [nameS, if_neg (fun hc => h hc.1)]
theorem tail_not58 {a : UInt8} (h : isTail a = true) : a ≠ 58 := by rintro rfl; revert h; decide
theorem nameS_run : ∀ (t l r : List UInt8), (∀ b ∈ t, isTail b = true) → nameS l (t ++ r) = nameS (l ++ t) r
  | [], l, r, _ => by simp
  | a :: t, l, r, h => by
    rw [List.cons_append, nameS_step l _ a (tail_not58 (h a (by simp))), nameS_run t (l ++ [a]) r (fun b hb => h b (by simp [hb]))]
    simp
/-- A name, part by part. -/
def nameOk : Nat → List UInt8 → Bool
  | 0, _ => false
  | f + 1, l => decide (partL l ≠ 0) && (decide (partL l = l.length) || (colons (l.drop (partL l)) && nameOk f (l.drop (partL l + 2))))
theorem nameS_ok : ∀ (f : Nat) (l : List UInt8), l.length < f → nameS [] l = nameOk f l
  | 0, l, h => absurd h (Nat.not_lt_zero _)
  | f + 1, l, h => by
    unfold nameOk
    have hle := Lex.partL_le l
    by_cases hm : partL l = 0
    · rw [decide_eq_false (fun hn => hn hm), Bool.false_and]
      cases l with
      | nil => rw [nameS]; rfl
      | cons b r =>
        have hs : isSmall b = false := by
          cases hs : isSmall b with
          | false => rfl
          | true => have := Lex.partL_pos (r := r) hs; omega
        have hb : partB [b] = false := by show (isSmall b && _) = false; rw [hs]; rfl
        by_cases h58 : b = 58
        · cases r with
          | nil => rw [nameS]; exact hb
          | cons c t =>
            rw [nameS]
            split
            · rfl
            · exact nameS_bad _ _ _ (Nat.le_refl _) (by simp) hb
        · rw [nameS_step [] r b h58]
          exact nameS_bad _ _ _ (Nat.le_refl _) (by simp) hb
    · rw [decide_eq_true hm, Bool.true_and]
      have hcut := Lex.partL_cut l (partL l) (Nat.le_refl _)
      have hcl : (l.take (partL l)).length = partL l := by rw [List.length_take]; omega
      have hpb : partB (l.take (partL l)) = true := by
        rw [partB_iff, hcut, hcl]
        simp only [decide_true, Bool.and_true, decide_eq_true_eq]
        intro he
        rw [he] at hcl
        simp at hcl
        omega
      have htl : ∀ b ∈ l.take (partL l), isTail b = true := by
        cases l with
        | nil => simp
        | cons b r =>
          rw [partB] at hpb
          intro x hx
          obtain ⟨m, hm2⟩ : ∃ m, partL (b :: r) = m + 1 := ⟨partL (b :: r) - 1, by omega⟩
          rw [hm2, List.take_succ_cons] at hpb hx
          simp only [headSmall, List.drop_succ_cons, List.drop_zero, Bool.and_eq_true, List.all_eq_true] at hpb
          rcases List.mem_cons.1 hx with rfl | hx
          · exact Lex.small_tail hpb.1
          · exact hpb.2 x hx
      have e1 : nameS [] l = nameS (l.take (partL l)) (l.drop (partL l)) := by
        have := nameS_run (l.take (partL l)) [] (l.drop (partL l)) htl
        rw [List.take_append_drop] at this
        exact this
      rw [e1]
      cases hd : l.drop (partL l) with
      | nil =>
        have : partL l = l.length := by
          have := List.drop_eq_nil_iff.1 hd
          omega
        rw [nameS, hpb, decide_eq_true this]
        rfl
      | cons x y =>
        have hlt : partL l < l.length := by
          have := congrArg List.length hd
          simp only [List.length_drop, List.length_cons] at this
          omega
        rw [decide_eq_false (by omega), Bool.false_or]
        have hx : partB (l.take (partL l) ++ [x]) = false := by
          have e2 : l.take (partL l) ++ [x] = l.take (partL l + 1) := by
            have hg : l[partL l]? = some x := by
              have := congrArg (fun l => l[0]?) hd
              simpa using this
            rw [List.take_add_one, hg]
            rfl
          rw [e2, partB_iff]
          have e3 : partL (l.take (partL l + 1)) = partL l := Lex.partL_cut l _ (by omega)
          rw [e3]
          simp only [Bool.and_eq_false_iff, decide_eq_false_iff_not]
          right
          rw [List.length_take]
          omega
        by_cases hc : colons (x :: y) = true
        · match y, hc with
          | c :: t, hc =>
            have h58 : x = 58 ∧ c = 58 := by
              unfold Lex.colons at hc
              split at hc
              · rename_i he
                simp only [List.cons.injEq] at he
                exact ⟨he.1, he.2.1⟩
              · cases hc
            rw [hc, nameS, if_pos h58, hpb]
            have e4 : l.drop (partL l + 2) = t := by rw [← List.drop_drop, hd]; rfl
            rw [e4, Bool.true_and, Bool.true_and]
            refine nameS_ok f t ?_
            have := congrArg List.length hd
            simp only [List.length_drop, List.length_cons] at this
            omega
          | [], hc => simp [Lex.colons] at hc
        · have hc' : colons (x :: y) = false := by simpa using hc
          rw [hc', Bool.false_and]
          by_cases hx58 : x = 58
          · cases y with
            | nil => rw [nameS]; exact hx
            | cons c t =>
              rw [nameS]
              have : ¬ (x = 58 ∧ c = 58) := by
                rintro ⟨rfl, rfl⟩
                simp [Lex.colons] at hc'
              rw [if_neg this]
              exact nameS_bad _ _ _ (Nat.le_refl _) (by simp) hx
          · rw [nameS_step _ y x hx58]
            exact nameS_bad _ _ _ (Nat.le_refl _) (by simp) hx
theorem nameOk_fuel : ∀ (f g : Nat) (l : List UInt8), l.length < f → l.length < g → nameOk f l = nameOk g l := fun f g l h1 h2 => (nameS_ok f l h1).symm.trans (nameS_ok g l h2)
theorem nameGo_ok : ∀ (f : Nat) (l : List UInt8) (n : Nat), 0 < n → n ≤ l.length → l.length ≤ f + n → decide (nameGo f l n = l.length) = (decide (n = l.length) || (colons (l.drop n) && nameS [] (l.drop (n + 2))))
  | 0, l, n, h0, h1, h2 => by
    obtain rfl : n = l.length := by omega
    simp [Lex.nameGo]
  | f + 1, l, n, h0, h1, h2 => by
    rw [Lex.nameGo_succ]
    by_cases hc : colons (l.drop n) = true
    · have h2l := Lex.colons_two hc
      simp only [List.length_drop] at h2l
      rw [if_pos ⟨h0, hc⟩, hc, Bool.true_and, decide_eq_false (show ¬ n = l.length by omega), Bool.false_or]
      rw [nameS_ok ((l.drop (n + 2)).length + 1) _ (by omega)]
      unfold nameOk
      have hp := Lex.partL_le (l.drop (n + 2))
      simp only [List.length_drop] at hp ⊢
      by_cases hm : partL (l.drop (n + 2)) = 0
      · rw [if_pos hm, decide_eq_false (show ¬ n = l.length by omega), decide_eq_false (fun h => h hm)]
        rfl
      · rw [if_neg hm, decide_eq_true hm, Bool.true_and]
        rw [nameGo_ok f l (n + 2 + partL (l.drop (n + 2))) (by omega) (by omega) (by omega)]
        congr 1
        · rw [decide_eq_decide]
          omega
        · rw [List.drop_drop, List.drop_drop, Nat.add_assoc]
          congr 1
          have : n + 2 + partL (l.drop (n + 2)) + 2 = n + 2 + (partL (l.drop (n + 2)) + 2) := by omega
          rw [show n + (2 + partL (l.drop (n + 2))) + 2 = n + 2 + (partL (l.drop (n + 2)) + 2) by omega]
          exact nameS_ok _ _ (by simp only [List.length_drop]; omega)
    · rw [if_neg (fun h => hc h.2)]
      have hc' : colons (l.drop n) = false := by simpa using hc
      rw [hc', Bool.false_and, Bool.or_false]
/-- A whole text is a name: the program's way. -/
theorem nameS_is (l : List UInt8) : nameS [] l = (decide (l ≠ []) && decide (nameL l = l.length)) := by
  rw [nameS_ok (l.length + 1) l (by omega)]
  unfold nameOk
  have hp := Lex.partL_le l
  by_cases hm : partL l = 0
  · rw [decide_eq_false (fun h => h hm), Bool.false_and]
    cases l with
    | nil => rfl
    | cons b r =>
      have : nameL (b :: r) = 0 := by
        unfold Lex.nameL
        rw [hm, List.length_cons, Lex.nameGo_succ, if_neg (fun h => absurd h.1 (by omega))]
      rw [this]
      simp
  · rw [decide_eq_true hm, Bool.true_and]
    unfold Lex.nameL
    rw [nameGo_ok l.length l (partL l) (by omega) hp (by omega)]
    have hne : l ≠ [] := by rintro rfl; exact hm rfl
    rw [decide_eq_true hne, Bool.true_and]
    congr 2
    exact (nameS_ok _ _ (by have : 0 < partL l := by omega
                            simp only [List.length_drop]; omega)).symm
end Go.Proofs.YtjjhopcbipedaaaDoor.PX
