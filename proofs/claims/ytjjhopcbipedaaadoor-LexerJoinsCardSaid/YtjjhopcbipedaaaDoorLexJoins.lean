/- LexerJoins' plain law: words with a blank between each two are cut into the same words. -/
import Derived.Test.YtjjhopcbipedaaaDoorLexMore
import Derived.Test.YtjjhopcbipedaaaDoorPXx7
namespace Go.Proofs.YtjjhopcbipedaaaDoor.PX
open Go.RowKit Go.Proofs.YtjjhopcbipedaaaDoorW.PrintWords Go.Proofs.YtjjhopcbipedaaaDoorW.PrintLast Go.Proofs.YtjjhopcbipedaaaDoorW.PrintMore
open Lex (wordL lexF Lexes Tok comL idxL isBlank textOf)

theorem ev_joins_l1 (ts us : List Tok) (ha : Lex.Alike us ts) (hb : ts.length ≤ 65536) : ∀ (d i : Nat), ts.length - i ≤ d → i ≤ ts.length → Ev (fun k => majordomolaw11_LexerJoins.l1 k (ts.map toS) (us.map toS) (i : Int)) true := by
  have hl := alike_len ha
  have h1 := len_toS ts
  have h2 := len_toS us
  intro d
  induction d with
  | zero =>
    intro i hd hi
    refine Ev.step (f := fun _ => some true) (fun k => ?_) (Ev.now _)
    simp only [majordomolaw11_LexerJoins.l1]
    rw [if_neg (by omega)]
  | succ d ih =>
    intro i hd hi
    by_cases hlt : i < ts.length
    · obtain ⟨t, ht, -⟩ := get_lt hlt
      obtain ⟨u, hu, -⟩ := get_lt (a := us) (i := i) (by omega)
      obtain ⟨e1, e2⟩ := alike_get ha hu ht
      refine Ev.step (fun k => ?_) (ih (i + 1) (by omega) (by omega))
      simp only [majordomolaw11_LexerJoins.l1]
      rw [if_pos (by omega), if_pos (by omega), if_pos (by omega), rd_toS us i u hu, rd_toS ts i t ht, if_pos (show (toS u).f0 = (toS t).f0 by simp only [toS, e1]), if_pos (show (toS u).f1.toList = (toS t).f1.toList by simp only [toS, e2]), w64 ((i : Int) + 1) ((i + 1 : Nat) : Int) (by omega) (by omega) (by omega)]
    · refine Ev.step (f := fun _ => some true) (fun k => ?_) (Ev.now _)
      simp only [majordomolaw11_LexerJoins.l1]
      rw [if_neg (by omega)]
theorem ev_joins_j2 (l : List UInt8) (ts : List Tok) (h : Lexes 0 l ts) (hl : l.length ≤ 65536) (X : ByteArray) (hX : ts.length ≤ 2000 → X.data.toList = Lex.joined ts) : Ev (fun k => majordomolaw11_LexerJoins.j2 k (ts.map toS) X) true := by
  have h1 := len_toS ts
  have hlen := (Lex.joined_len h).2
  have ht : Ev (fun k => majordomolaw11_LexerJoins.j3 k (ts.map toS) X true) true := by
    refine Ev.step (f := fun _ => some true) (fun k => ?_) (Ev.now _)
    simp only [majordomolaw11_LexerJoins.j3]
    rw [if_pos trivial]
  by_cases hz : X.size ≤ 65536
  · by_cases h2 : ts.length ≤ 2000
    · obtain ⟨us, hu, ha⟩ := h.joined 0
      have hlu := alike_len ha
      have hxl := ev_Lex_ok (s := X) hz (by rw [hX h2]; exact hu)
      refine Ev.step (f := fun k => majordomolaw11_LexerJoins.j3 k (ts.map toS) X false) (fun k => ?_) ?_
      · simp only [majordomolaw11_LexerJoins.j2]
        rw [if_neg (by omega), decide_eq_false (by omega)]
      refine Ev.step (f := fun k => (lexer_Lex.f k X).bind fun bt176 => (if bt176.2.2 = 0 then (majordomolaw11_LexerJoins.j4 k (ts.map toS) bt176.1 ((bt176.1.length : Int) != ((ts.map toS).length : Int))) else (majordomolaw11_LexerJoins.j4 k (ts.map toS) bt176.1 true))) (fun k => ?_) ?_
      · simp only [majordomolaw11_LexerJoins.j3]
        rw [if_neg (by decide)]
      refine Ev.bind hxl ?_
      have hne : (((us.map toS).length : Int) != ((ts.map toS).length : Int)) = false := by rw [bne_eq_false_iff_eq, len_toS, len_toS, hlu]
      dsimp only
      rw [hne]
      simp only [if_true]
      refine Ev.step (fun k => ?_) (ev_joins_l1 ts us ha (by omega) ts.length 0 (by omega) (by omega))
      simp only [majordomolaw11_LexerJoins.j4]
      rw [if_neg (by decide)]
      rfl
    · refine Ev.step (fun k => ?_) ht
      simp only [majordomolaw11_LexerJoins.j2]
      rw [if_neg (by omega), decide_eq_true (by omega)]
  · refine Ev.step (fun k => ?_) ht
    simp only [majordomolaw11_LexerJoins.j2]
    rw [if_pos (by omega)]
theorem ev_joins_l0 (l : List UInt8) (ts : List Tok) (h : Lexes 0 l ts) (hl : l.length ≤ 65536) : ∀ (d i : Nat) (X : ByteArray), ts.length - i ≤ d → i ≤ ts.length → i ≤ 2000 → X.data.toList = Lex.joined (ts.take i) → Ev (fun k => majordomolaw11_LexerJoins.l0 k (ts.map toS) X (i : Int)) true := by
  have h1 := len_toS ts
  obtain ⟨hj, hlen⟩ := Lex.joined_len h
  intro d
  induction d with
  | zero =>
    intro i X hd hi h2k hX
    refine Ev.step (fun k => ?_) (ev_joins_j2 l ts h hl X (fun _ => by rw [hX, List.take_of_length_le (by omega)]))
    simp only [majordomolaw11_LexerJoins.l0]
    rw [if_neg (by omega)]
  | succ d ih =>
    intro i X hd hi h2k hX
    by_cases hlt : i < ts.length
    · by_cases h2 : i < 2000
      · obtain ⟨t, ht, hm⟩ := get_lt hlt
        have htl := lexes_text h t hm
        obtain ⟨T, hT, hTd⟩ := text_of t.kind t.text (t.at_ : Int) (by omega)
        have hjn : Lex.joined (ts.take (i + 1)) = X.data.toList ++ (T.data.toList ++ [32]) := by
          rw [hX, hTd, List.take_add_one, ht, Lex.joined_append]
          simp [Lex.joined]
        have hsz : X.size + T.size + 1 ≤ 131072 := by
          have e1 : ts = ts.take (i + 1) ++ ts.drop (i + 1) := (List.take_append_drop _ _).symm
          have e2 := congrArg (fun x => (Lex.joined x).length) e1
          simp only [Lex.joined_append, List.length_append, hjn, List.length_singleton] at e2
          rw [size_list, size_list]
          omega
        have hXT : (X ++ T).size = X.size + T.size := ByteArray.size_append
        refine Ev.step (fun k => ?_) (ih (i + 1) ((X ++ T) ++ (⟨#[32]⟩ : ByteArray)) (by omega) (by omega) (by omega) ?_)
        · simp only [majordomolaw11_LexerJoins.l0]
          rw [if_pos (by omega), if_pos (by omega), if_pos (by omega), rd_toS ts i t ht]
          simp only [toS]
          rw [hT, Option.bind_some, if_pos (by omega), if_pos (by omega), w64 ((i : Int) + 1) ((i + 1 : Nat) : Int) (by omega) (by omega) (by omega)]
        · rw [hjn, bapp, bapp, List.append_assoc]
      · refine Ev.step (fun k => ?_) (ev_joins_j2 l ts h hl X (fun h3 => by omega))
        simp only [majordomolaw11_LexerJoins.l0]
        rw [if_pos (by omega), if_neg (by omega)]
    · refine Ev.step (fun k => ?_) (ev_joins_j2 l ts h hl X (fun _ => by rw [hX, List.take_of_length_le (by omega)]))
      simp only [majordomolaw11_LexerJoins.l0]
      rw [if_neg (by omega)]
theorem ev_LexerJoins (a0 : ByteArray) (w0 : a0.size ≤ 140737488351232) : Ev (fun k => majordomolaw11_LexerJoins.f k a0) true := by
  unfold majordomolaw11_LexerJoins.f
  refine Ev.bind ev_shown ?_
  have hbad : ∀ x, Ev (fun k => majordomolaw11_LexerJoins.j0 k true x true) true := by
    intro x
    refine Ev.step (f := fun _ => some true) (fun k => ?_) (Ev.now _)
    simp only [majordomolaw11_LexerJoins.j0]
    rw [if_pos trivial]
  by_cases hz : a0.size ≤ 65536
  · cases hx : lexOf a0 with
    | inr q =>
      have h1 := ev_Lex a0 hz
      rw [hx] at h1
      exact Ev.bind h1 (hbad _)
    | inl ts =>
      have hlx := Lex.lexF_lexes _ _ _ _ (by rw [size_list]; exact Nat.le_refl _) hx
      refine Ev.bind (ev_Lex_ok hz hlx) ?_
      have := ev_joins_l0 _ ts hlx (by rw [← size_list]; exact hz) ts.length 0 ⟨#[]⟩ (by omega) (by omega) (by omega) rfl
      refine Ev.step (fun k => ?_) this
      simp only [majordomolaw11_LexerJoins.j0]
      rfl
  · exact Ev.bind (ev_Lex_long a0 (by omega)) (hbad _)
end Go.Proofs.YtjjhopcbipedaaaDoor.PX
