/- LexerBetween's plain law: what is between two words is blanks and comments, and each word, cut out, is that word. -/
import Derived.Test.YtjjhopcbipedaaaDoorPXx6
import Derived.Test.YtjjhopcbipedaaaDoorLexEv
namespace Go.Proofs.YtjjhopcbipedaaaDoor.PX
open Go.RowKit Go.Proofs.YtjjhopcbipedaaaDoorW.PrintWords Go.Proofs.YtjjhopcbipedaaaDoorW.PrintLast Go.Proofs.YtjjhopcbipedaaaDoorW.PrintMore
open Lex (wordL lexF Lexes Tok comL idxL isBlank textOf)
theorem ev_shown : Ev (fun k => majordomolaw11_shown.f k) true := by
  refine Ev.of (majordomolaw11_shown.mono) (k := 60) ?_
  decide +kernel

/-! ### blanks and comments -/
def blankGo : Bool → List UInt8 → Option Bool
  | c, [] => some c
  | c, b :: r => if b = 10 then blankGo false r else if c = true then blankGo c r else if b = 35 then blankGo true r else if b = 9 then blankGo c r else if b = 13 then blankGo c r else if b = 32 then blankGo c r else none
theorem blankGo_append : ∀ (a : List UInt8) (c : Bool) (b : List UInt8), blankGo c (a ++ b) = (blankGo c a).bind fun d => blankGo d b
  | [], c, b => rfl
  | x :: a, c, b => by
    rw [List.cons_append, blankGo, blankGo]
    repeat' split
    all_goals first | exact blankGo_append a _ b | rfl
theorem bt_drop {s : ByteArray} {p : Nat} {b : UInt8} {r : List UInt8} (h : s.data.toList.drop p = b :: r) : bt s (p : Int) = (b.toNat : Int) := by
  have hlt : p < s.data.toList.length := by
    have := congrArg List.length h
    simp only [List.length_drop, List.length_cons] at this
    omega
  have hb : s.data.toList[p]? = some b := by
    have := congrArg (fun l => l[0]?) h
    simpa using this
  obtain ⟨⟨l⟩⟩ := s
  unfold bt
  rw [dif_pos (by simpa [ByteArray.size] using hlt)]
  simp only [Int.toNat_natCast]
  rw [List.getElem?_eq_getElem hlt, Option.some.injEq] at hb
  exact congrArg (fun b : UInt8 => (b.toNat : Int)) hb
theorem ev_blankGo (s : ByteArray) (hz : s.size ≤ 140737488351232) : ∀ (f p : Nat) (c : Bool), p ≤ s.size → s.size ≤ f + p → Ev (fun k => majordomolaw11_blank.l0 k s c (p : Int)) (blankGo c (s.data.toList.drop p)).isSome := by
  have hl := size_list s
  intro f
  induction f with
  | zero =>
    intro p c h1 h2
    obtain rfl : p = s.size := by omega
    refine Ev.step (f := fun _ => some true) (fun k => ?_) ?_
    · simp only [majordomolaw11_blank.l0]
      rw [if_neg (by omega)]
    · rw [hl, List.drop_length]
      exact Ev.now _
  | succ f ih =>
    intro p c h1 h2
    cases hd : s.data.toList.drop p with
    | nil =>
      have hp : p = s.size := by
        have := congrArg List.length hd
        simp only [List.length_drop, List.length_nil] at this
        omega
      refine Ev.step (f := fun _ => some true) (fun k => ?_) (Ev.now _)
      simp only [majordomolaw11_blank.l0]
      rw [if_neg (by omega)]
    | cons b r =>
      have hlen : s.size - p = r.length + 1 := by
        have := congrArg List.length hd
        simp only [List.length_drop, List.length_cons] at this
        omega
      have hbt := bt_drop hd
      have hdr : s.data.toList.drop (p + 1) = r := by rw [← List.drop_drop, hd]; rfl
      have hw : wrap64 ((p : Int) + 1) = ((p + 1 : Nat) : Int) := w64 _ _ (by omega) (by omega) (by omega)
      have hin := fun (x : Nat) (hx : x < 256) => (show ((b.toNat : Int) = (x : Int)) ↔ b = UInt8.ofNat x from ⟨fun h => UInt8.toNat_inj.1 (by rw [UInt8.toNat_ofNat_of_lt' (by simpa using hx)]; omega), fun h => by rw [h, UInt8.toNat_ofNat_of_lt' (by simpa using hx)]⟩)
      obtain ⟨K, hK⟩ := ih (p + 1) (if b = 10 then false else if c = true then c else if b = 35 then true else c) (by omega) (by omega)
      rw [hdr] at hK
      refine ⟨K + 1, fun k hk => ?_⟩
      obtain ⟨k, rfl⟩ : ∃ m, k = m + 1 := ⟨k - 1, by omega⟩
      have hk' := hK k (by omega)
      simp only [majordomolaw11_blank.l0]
      rw [if_pos (by omega), if_pos (by omega), hbt, hw, blankGo]
      have i10 : ((b.toNat : Int) = 10) ↔ b = 10 := hin 10 (by decide)
      have i35 : ((b.toNat : Int) = 35) ↔ b = 35 := hin 35 (by decide)
      have i9 : ((b.toNat : Int) = 9) ↔ b = 9 := hin 9 (by decide)
      have i13 : ((b.toNat : Int) = 13) ↔ b = 13 := hin 13 (by decide)
      have i32 : ((b.toNat : Int) = 32) ↔ b = 32 := hin 32 (by decide)
      by_cases c1 : b = 10
      · rw [if_pos c1] at hk'
        rw [if_pos (i10.2 c1), if_pos c1]
        exact hk'
      · rw [if_neg c1] at hk'
        rw [if_neg (fun h => c1 (i10.1 h)), if_neg c1]
        by_cases c2 : c = true
        · rw [if_pos c2] at hk'
          rw [if_pos c2, if_pos c2]
          exact hk'
        · rw [if_neg c2] at hk'
          rw [if_neg c2, if_neg c2]
          by_cases c3 : b = 35
          · rw [if_pos c3] at hk'
            rw [if_pos (i35.2 c3), if_pos c3]
            exact hk'
          · rw [if_neg c3] at hk'
            rw [if_neg (fun h => c3 (i35.1 h)), if_neg c3]
            by_cases c4 : b = 9
            · rw [if_pos (i9.2 c4), if_pos c4]
              exact hk'
            · rw [if_neg (fun h => c4 (i9.1 h)), if_neg c4]
              by_cases c5 : b = 13
              · rw [if_pos (i13.2 c5), if_pos c5]
                exact hk'
              · rw [if_neg (fun h => c5 (i13.1 h)), if_neg c5]
                by_cases c6 : b = 32
                · rw [if_pos (i32.2 c6), if_pos c6]
                  exact hk'
                · rw [if_neg (fun h => c6 (i32.1 h)), if_neg c6]
                  rfl
theorem ev_blank (s : ByteArray) (hz : s.size ≤ 140737488351232) : Ev (fun k => majordomolaw11_blank.f k s) (blankGo false s.data.toList).isSome := by
  have := ev_blankGo s hz s.size 0 false (by omega) (by omega)
  exact this
/-- A comment's bytes, and what stands behind. -/
theorem idxL_before : ∀ (l : List UInt8) (c : UInt8) (i : Nat), idxL l c = some i → ∀ b ∈ l.take i, b ≠ c
  | [], c, i, h => by simp [idxL] at h
  | x :: r, c, i, h => by
    rw [Lex.idxL_cons] at h
    by_cases hx : (x == c) = true
    · rw [if_pos hx] at h
      cases h
      simp
    · rw [if_neg hx] at h
      obtain ⟨k, hk, rfl⟩ := Option.map_eq_some_iff.1 h
      rw [List.take_succ_cons]
      intro b hb
      rcases List.mem_cons.1 hb with rfl | hb
      · simpa using hx
      · exact idxL_before r c k hk b hb
theorem idxL_no (l : List UInt8) (c : UInt8) (h : idxL l c = none) : ∀ b ∈ l, b ≠ c := by
  unfold Lex.idxL at h
  rw [List.findIdx?_eq_none_iff] at h
  intro b hb
  simpa using h b hb
theorem com_bytes (l : List UInt8) : (∀ b ∈ l.take (comL l), b ≠ 10) ∧ (l.drop (comL l) = [] ∨ ∃ r, l.drop (comL l) = 10 :: r) := by
  unfold Lex.comL
  cases h : idxL l 10 with
  | none =>
    refine ⟨fun b hb => idxL_no l 10 h b (List.mem_of_mem_take hb), .inl ?_⟩
    simp
  | some i =>
    refine ⟨idxL_before l 10 i h, .inr ?_⟩
    have hlt := Lex.idxL_lt h
    have hat := Lex.idxL_at l 10 i h
    rw [List.getElem?_eq_getElem hlt, Option.some.injEq] at hat
    exact ⟨l.drop (i + 1), by rw [List.drop_eq_getElem_cons hlt, hat]⟩
theorem blankGo_com : ∀ (l : List UInt8), (∀ b ∈ l, b ≠ 10) → blankGo true l = some true
  | [], _ => rfl
  | b :: r, h => by
    rw [blankGo, if_neg (h b (by simp)), if_pos rfl]
    exact blankGo_com r (fun x hx => h x (by simp [hx]))
theorem blankGo_blank {b : UInt8} (h : isBlank b = true) : blankGo false [b] = some false := by
  unfold Lex.isBlank at h
  simp only [Bool.or_eq_true, beq_iff_eq] at h
  rcases h with ((h | h) | h) | h <;> subst h <;> decide

/-! ### the walk over the words -/
theorem bapp (a b : ByteArray) : (a ++ b).data.toList = a.data.toList ++ b.data.toList := by simp
theorem text_of (k : Nat) (t : List UInt8) (p : Int) (hz : t.length ≤ 4611686018427387904) : ∃ X : ByteArray, majordomoref11_Text.f (k : Int) ⟨t.toArray⟩ p = some X ∧ X.data.toList = textOf k t := by
  have hs : (⟨t.toArray⟩ : ByteArray).size ≤ 4611686018427387904 := by rw [size_list]; exact hz
  unfold majordomoref11_Text.f textOf
  rw [if_pos hs]
  refine ⟨_, rfl, ?_⟩
  by_cases h3 : k = 3
  · rw [if_pos (by omega), if_pos h3, bapp]; rfl
  · rw [if_neg (by omega), if_neg h3]
    by_cases h4 : k = 4
    · rw [if_pos (by omega), if_pos h4, bapp, bapp]; rfl
    · rw [if_neg (by omega), if_neg h4]
      by_cases h5 : k = 5
      · rw [if_pos (by omega), if_pos h5, bapp, bapp]; rfl
      · rw [if_neg (by omega), if_neg h5]
theorem rd_toS (all : List Tok) (i : Nat) (t : Tok) (h : all[i]? = some t) : rd_T29 (all.map toS) (i : Int) = toS t := by
  unfold rd_T29
  rw [Int.toNat_natCast, List.getD_eq_getElem?_getD, List.getElem?_map, h]
  rfl
theorem between (s : ByteArray) (hz : s.size ≤ 65536) (all : List Tok) (hall : all.length ≤ 65536) {p : Nat} {l : List UInt8} {ts : List Tok} (h : Lexes p l ts) :
    ∀ (e i : Nat) (g : List UInt8) (c : Bool), s.data.toList.drop e = g ++ l → e + g.length = p → p + l.length = s.size → all.drop i = ts → blankGo false g = some c → (c = true → l = [] ∨ ∃ r, l = 10 :: r) →
      Ev (fun k => majordomolaw11_LexerBetween.l0 k s (all.map toS) (e : Int) (i : Int)) true := by
  induction h with
  | nil p =>
    intro e i g c h1 h2 h3 h4 h5 h6
    obtain ⟨K, hK⟩ := ev_blank (s.extract e s.size) (by rw [size_list, Lib.extract_to_end, List.length_drop, ← size_list]; omega)
    rw [Lib.extract_to_end, h1, List.append_nil, h5] at hK
    dsimp only at hK
    have hi : all.length ≤ i := List.drop_eq_nil_iff.1 h4
    simp only [List.length_nil] at h3
    refine ⟨K + 1, fun k hk => ?_⟩
    obtain ⟨k, rfl⟩ : ∃ m, k = m + 1 := ⟨k - 1, by omega⟩
    simp only [majordomolaw11_LexerBetween.l0]
    rw [if_neg (by simp; omega), if_pos (by omega), if_pos (by omega), Int.toNat_natCast, hK k (by omega)]
    rfl
  | @blank p b r ts hb _ ih =>
    intro e i g c h1 h2 h3 h4 h5 h6
    refine ih e i (g ++ [b]) false (by simpa using h1) (by simp; omega) (by simp only [List.length_cons] at h3; omega) h4 ?_ (by simp)
    rw [blankGo_append, h5, Option.bind_some]
    cases c with
    | false => exact blankGo_blank hb
    | true =>
      rcases h6 rfl with hh | ⟨r', hh⟩
      · cases hh
      · cases hh; rfl
  | @comment p r ts _ ih =>
    intro e i g c h1 h2 h3 h4 h5 h6
    have hle := Lex.comL_le (35 :: r)
    obtain ⟨hb, hn⟩ := com_bytes (35 :: r)
    have hc : c = false := by
      cases c with
      | false => rfl
      | true =>
        rcases h6 rfl with hh | ⟨r', hh⟩
        · cases hh
        · simp only [List.cons.injEq] at hh
          exact absurd hh.1 (by decide)
    subst hc
    refine ih e i (g ++ (35 :: r).take (comL (35 :: r))) true ?_ ?_ ?_ h4 ?_ (fun _ => hn)
    · rw [List.append_assoc, List.take_append_drop]; exact h1
    · rw [List.length_append, List.length_take]; omega
    · rw [List.length_drop]; omega
    · rw [blankGo_append, h5, Option.bind_some]
      have hp := Lex.comL_pos r
      obtain ⟨m, hm⟩ : ∃ m, comL (35 :: r) = m + 1 := ⟨comL (35 :: r) - 1, by omega⟩
      rw [hm, List.take_succ_cons] at hb ⊢
      rw [blankGo, if_neg (by decide), if_neg (by decide), if_pos rfl]
      exact blankGo_com _ (fun x hx => hb x (by simp [hx]))
  | @word p l ts k lo hi n hw _ ih =>
    intro e i g c h1 h2 h3 h4 h5 h6
    have hok := Lex.wordL_ok hw
    have hl := size_list s
    have hget : all[i]? = some ⟨k, (l.take hi).drop lo, p⟩ := by
      have := congrArg (fun x => x[0]?) h4
      simpa using this
    have hil := (List.getElem?_eq_some_iff.1 hget).1
    have hrest : all.drop (i + 1) = ts := by rw [← List.drop_drop, h4]; rfl
    have hp : s.data.toList.drop p = l := by rw [← h2, ← List.drop_drop, h1, List.drop_left]
    obtain ⟨X, hX, hXd⟩ := text_of k ((l.take hi).drop lo) (p : Int) (by rw [List.length_drop, List.length_take]; omega)
    rw [Lex.textOf_word hw] at hXd
    have hXs : X.size = n := by rw [size_list, hXd, List.length_take]; omega
    obtain ⟨K1, hK1⟩ := ev_blank (s.extract e p) (by rw [size_list, Lib.extract_data, List.length_take, List.length_drop]; omega)
    have hg : (s.extract e p).data.toList = g := by rw [Lib.extract_data, h1, List.take_append_of_le_length (by omega), List.take_of_length_le (by omega)]
    rw [hg, h5] at hK1
    obtain ⟨K2, hK2⟩ := ev_Lex_ok (s := X) (by omega) (by rw [hXd]; exact Lexes.one 0 hw)
    obtain ⟨K3, hK3⟩ := ih (p + n) (i + 1) [] false (by rw [List.nil_append, ← List.drop_drop, hp]) (by simp) (by rw [List.length_drop]; omega) hrest rfl (by simp)
    dsimp only at hK1 hK2 hK3
    refine ⟨K1 + K2 + K3 + 2, fun k' hk => ?_⟩
    obtain ⟨m, rfl⟩ : ∃ m, k' = m + 2 := ⟨k' - 2, by omega⟩
    simp only [majordomolaw11_LexerBetween.l0]
    rw [rd_toS all i _ hget]
    simp only [toS]
    rw [if_pos (by simp; omega), if_pos (by omega), hX, Option.bind_some, hXs]
    have hw1 : wrap64 ((p : Int) + (n : Int)) = ((p + n : Nat) : Int) := w64 _ _ (by omega) (by omega) (by omega)
    simp only [hw1]
    clear hw1
    rw [if_neg (by omega), if_neg (by omega), if_pos (by omega), if_pos (by omega), if_pos (by omega)]
    have hne : ((s.extract ((p : Int).toNat) (((p + n : Nat) : Int).toNat)).toList != X.toList) = false := by
      rw [bne_eq_false_iff_eq, ByteArray.toList_eq, ByteArray.toList_eq, hXd, Int.toNat_natCast, Int.toNat_natCast, Lib.extract_data, hp]
      congr 1
      omega
    rw [hne]
    simp only [majordomolaw11_LexerBetween.j2]
    rw [if_neg (by decide), if_pos (by omega), if_pos (by omega), if_pos (by omega), Int.toNat_natCast, Int.toNat_natCast, hK1 m (by omega), Option.bind_some, hK2 m (by omega), Option.bind_some]
    rw [rd_toS all i _ hget, hXs]
    have hw1 : wrap64 ((p : Int) + (n : Int)) = ((p + n : Nat) : Int) := w64 _ _ (by omega) (by omega) (by omega)
    have hw2 : wrap64 ((i : Int) + 1) = ((i + 1 : Nat) : Int) := w64 _ _ (by clear hw1; omega) (by clear hw1; omega) (by clear hw1; omega)
    simp only [hw1, hw2]
    clear hw1 hw2
    have e0 : rd_T29 (List.map toS [({ kind := k, text := (l.take hi).drop lo, at_ := 0 } : Tok)]) 0 = toS ⟨k, (l.take hi).drop lo, 0⟩ := rd_toS [⟨k, (l.take hi).drop lo, 0⟩] 0 _ rfl
    have hb := hK3 m (by omega)
    have hi0 : (0 : Int) ≤ (i : Int) := by omega
    have hi1 : (i : Int) < ((List.map toS all).length : Int) := by rw [List.length_map]; omega
    have hl1 : ((List.map toS [({ kind := k, text := (l.take hi).drop lo, at_ := 0 } : Tok)]).length : Int) = 1 := rfl
    have f0 : (toS ⟨k, (l.take hi).drop lo, 0⟩).f0 = (toS ⟨k, (l.take hi).drop lo, p⟩).f0 := rfl
    have f1 : (toS ⟨k, (l.take hi).drop lo, 0⟩).f1.toList = (toS ⟨k, (l.take hi).drop lo, p⟩).f1.toList := rfl
    rw [e0, show (some c).isSome = true from rfl, if_pos rfl, if_pos trivial, if_pos hl1, if_pos (by rw [hl1]; decide), if_pos hi0, if_pos hi1, if_pos f0, if_pos f1]
    exact hb
theorem ev_LexerBetween (a0 : ByteArray) (w0 : a0.size ≤ 140737488351232) : Ev (fun k => majordomolaw11_LexerBetween.f k a0) true := by
  obtain ⟨K0, h0⟩ := ev_shown
  by_cases hz : a0.size ≤ 65536
  · cases hx : lexOf a0 with
    | inr q =>
      obtain ⟨K1, h1⟩ := ev_Lex a0 hz
      rw [hx] at h1
      dsimp only at h0 h1
      refine ⟨K0 + K1 + 1, fun k hk => ?_⟩
      obtain ⟨k, rfl⟩ : ∃ m, k = m + 1 := ⟨k - 1, by omega⟩
      unfold majordomolaw11_LexerBetween.f
      dsimp only
      rw [h0 _ (by omega), Option.bind_some, h1 _ (by omega), Option.bind_some]
      simp [lexRes, majordomolaw11_LexerBetween.j0]
    | inl ts =>
      have hlx := Lex.lexF_lexes _ _ _ _ (by rw [size_list]; exact Nat.le_refl _) hx
      obtain ⟨K1, h1⟩ := ev_Lex_ok hz hlx
      have hlen := (Lex.joined_len hlx).2
      obtain ⟨K2, h2⟩ := between a0 hz ts (by rw [← size_list] at hlen; omega) hlx 0 0 [] false rfl rfl (by rw [← size_list]; omega) rfl rfl (by simp)
      dsimp only at h0 h1 h2
      refine ⟨K0 + K1 + K2 + 1, fun k hk => ?_⟩
      obtain ⟨k, rfl⟩ : ∃ m, k = m + 1 := ⟨k - 1, by omega⟩
      unfold majordomolaw11_LexerBetween.f
      dsimp only
      rw [h0 _ (by omega), Option.bind_some, h1 _ (by omega), Option.bind_some]
      simp only [if_true]
      simp only [majordomolaw11_LexerBetween.j0]
      exact h2 k (by omega)
  · obtain ⟨K1, h1⟩ := ev_Lex_long a0 (by omega)
    dsimp only at h0 h1
    refine ⟨K0 + K1 + 1, fun k hk => ?_⟩
    obtain ⟨k, rfl⟩ : ∃ m, k = m + 1 := ⟨k - 1, by omega⟩
    unfold majordomolaw11_LexerBetween.f
    dsimp only
    rw [h0 _ (by omega), Option.bind_some, h1 _ (by omega), Option.bind_some]
    simp [majordomolaw11_LexerBetween.j0]
end Go.Proofs.YtjjhopcbipedaaaDoor.PX
