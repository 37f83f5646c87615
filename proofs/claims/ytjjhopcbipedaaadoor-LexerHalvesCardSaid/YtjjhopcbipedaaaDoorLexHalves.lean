/- LexerHalves' plain law: words on two lines are the words of the one and those of the other. -/
import Derived.Test.YtjjhopcbipedaaaDoorLexMore
import Derived.Test.YtjjhopcbipedaaaDoorPXx9
namespace Go.Proofs.YtjjhopcbipedaaaDoor.PX
open Go.RowKit Go.Proofs.YtjjhopcbipedaaaDoorW.PrintWords Go.Proofs.YtjjhopcbipedaaaDoorW.PrintLast Go.Proofs.YtjjhopcbipedaaaDoorW.PrintMore
open Lex (wordL lexF Lexes Tok comL idxL isBlank textOf)

theorem eqb (x y : S29) (h : x = y) : (!((x.f0) == (y.f0)) || (!(((x.f1).toList) == ((y.f1).toList)) || (!((x.f2) == (y.f2))))) = false := by subst h; simp
theorem ev_hal_l0 (a0 : ByteArray) (hz : a0.size ≤ 65536) (ts us : List Tok) (h1 : ts.length ≤ 65536) (h2 : us.length ≤ 65536) (hat : ∀ u ∈ us, u.at_ ≤ 65536) : ∀ (d i : Nat), ts.length + us.length - i ≤ d → i ≤ ts.length + us.length →
    Ev (fun k => majordomolaw11_LexerHalves.l0 k a0 (ts.map toS) (us.map toS) ((ts ++ us.map (Lex.Tok.shift (a0.size + 1))).map toS) (i : Int)) true := by
  have l1 := len_toS ts
  have l2 := len_toS us
  have l3 : (((ts ++ us.map (Lex.Tok.shift (a0.size + 1))).map toS).length : Int) = (ts.length : Int) + (us.length : Int) := by rw [len_toS, List.length_append, List.length_map]; omega
  intro d
  induction d with
  | zero =>
    intro i hd hi
    refine Ev.step (f := fun _ => some true) (fun k => ?_) (Ev.now _)
    simp only [majordomolaw11_LexerHalves.l0]
    rw [if_neg (by omega)]
  | succ d ih =>
    intro i hd hi
    by_cases hlt : i < ts.length + us.length
    · by_cases hi1 : i < ts.length
      · obtain ⟨t, ht, -⟩ := get_lt hi1
        have hg : (ts ++ us.map (Lex.Tok.shift (a0.size + 1)))[i]? = some t := by rw [List.getElem?_append_left hi1]; exact ht
        refine Ev.step (fun k => ?_) (ih (i + 1) (by omega) (by omega))
        simp only [majordomolaw11_LexerHalves.l0]
        rw [if_pos (by omega), if_pos (by omega), if_pos (by omega), rd_toS _ i t hg, rd_toS ts i t ht, eqb _ _ rfl, if_neg (by decide), w64 ((i : Int) + 1) ((i + 1 : Nat) : Int) (by omega) (by omega) (by omega)]
      · obtain ⟨u, hu, hm⟩ := get_lt (a := us) (i := i - ts.length) (by omega)
        have ha := hat u hm
        have hg : (ts ++ us.map (Lex.Tok.shift (a0.size + 1)))[i]? = some (Lex.Tok.shift (a0.size + 1) u) := by rw [List.getElem?_append_right (by omega), List.getElem?_map, hu]; rfl
        have hwi : wrap64 ((i : Int) - ((ts.map toS).length : Int)) = ((i - ts.length : Nat) : Int) := w64 _ _ (by omega) (by omega) (by omega)
        have hwa : wrap64 (wrap64 ((toS u).f2 + (a0.size : Int)) + 1) = (toS (Lex.Tok.shift (a0.size + 1) u)).f2 := by
          simp only [toS, Lex.Tok.shift]
          rw [w64 ((u.at_ : Int) + (a0.size : Int)) ((u.at_ + a0.size : Nat) : Int) (by clear hwi; omega) (by clear hwi; omega) (by clear hwi; omega), w64 (((u.at_ + a0.size : Nat) : Int) + 1) ((u.at_ + (a0.size + 1) : Nat) : Int) (by clear hwi; omega) (by clear hwi; omega) (by clear hwi; omega)]
        refine Ev.step (fun k => ?_) (ih (i + 1) (by clear hwi hwa; omega) (by clear hwi hwa; omega))
        simp only [majordomolaw11_LexerHalves.l0]
        rw [hwi, rd_toS _ i _ hg, rd_toS us (i - ts.length) u hu, hwa]
        clear hwi hwa
        rw [if_pos (by omega), if_neg (by omega), if_pos (by omega), if_pos (by omega), if_pos (by omega)]
        have hb : (!((toS (Lex.Tok.shift (a0.size + 1) u)).f0 == (toS u).f0) || (!((toS (Lex.Tok.shift (a0.size + 1) u)).f1.toList == (toS u).f1.toList) || (!((toS (Lex.Tok.shift (a0.size + 1) u)).f2 == (toS (Lex.Tok.shift (a0.size + 1) u)).f2)))) = false := by simp [toS, Lex.Tok.shift]
        rw [hb, if_neg (by decide), w64 ((i : Int) + 1) ((i + 1 : Nat) : Int) (by omega) (by omega) (by omega)]
    · refine Ev.step (f := fun _ => some true) (fun k => ?_) (Ev.now _)
      simp only [majordomolaw11_LexerHalves.l0]
      rw [if_neg (by omega)]
theorem ev_hal_j0 (a0 a1 : ByteArray) (x y : List S29) : Ev (fun k => majordomolaw11_LexerHalves.j0 k a0 a1 true x y true) true := by
  refine Ev.step (f := fun _ => some true) (fun k => ?_) (Ev.now _)
  simp only [majordomolaw11_LexerHalves.j0]
  rw [if_pos trivial]
/-- What Lex answers, in any case. -/
theorem ev_Lex_any (s : ByteArray) : (∃ ts, s.size ≤ 65536 ∧ Lexes 0 s.data.toList ts ∧ Ev (fun k => lexer_Lex.f k s) (ts.map toS, 0, 0)) ∨ ∃ L p e, e ≠ 0 ∧ Ev (fun k => lexer_Lex.f k s) (L, p, e) := by
  by_cases hz : s.size ≤ 65536
  · cases hx : lexOf s with
    | inr q =>
      have h1 := ev_Lex s hz
      rw [hx] at h1
      exact .inr ⟨_, _, 110, by decide, h1⟩
    | inl ts =>
      have hlx := Lex.lexF_lexes _ _ _ _ (by rw [size_list]; exact Nat.le_refl _) hx
      exact .inl ⟨ts, hz, hlx, ev_Lex_ok hz hlx⟩
  · exact .inr ⟨_, _, 5, by decide, ev_Lex_long s (by omega)⟩
theorem ev_LexerHalves (a0 a1 : ByteArray) (w0 : a0.size ≤ 140737488351232) (w1 : a1.size ≤ 140737488351232) : Ev (fun k => majordomolaw11_LexerHalves.f k a0 a1) true := by
  unfold majordomolaw11_LexerHalves.f
  refine Ev.bind ev_shown ?_
  rcases ev_Lex_any a0 with ⟨ts, hz0, hx0, hE0⟩ | ⟨L0, p0, e0, hne0, hE0⟩
  · rcases ev_Lex_any a1 with ⟨us, hz1, hx1, hE1⟩ | ⟨L1, p1, e1, hne1, hE1⟩
    · refine Ev.bind hE0 (Ev.bind hE1 ?_)
      dsimp only
      simp only [if_true]
      have hw : wrap64 ((a0.size : Int) + (a1.size : Int)) = ((a0.size + a1.size : Nat) : Int) := w64 _ _ (by omega) (by omega) (by omega)
      rw [hw]
      clear hw
      by_cases hs : a0.size + a1.size ≥ 65536
      · rw [decide_eq_true (by omega)]
        exact ev_hal_j0 a0 a1 _ _
      · rw [decide_eq_false (by omega)]
        have hlen0 := (Lex.joined_len hx0).2
        have hlen1 := (Lex.joined_len hx1).2
        have hat1 := lexes_at hx1
        rw [← size_list] at hlen0 hlen1
        have hall : Lexes 0 (a0.data.toList ++ 10 :: a1.data.toList) (ts ++ us.map (Lex.Tok.shift (a0.size + 1))) := by
          refine hx0.append ((hx1.shift (a0.size + 1)).cast ?_)
          rw [← size_list]
          omega
        have hX : ((a0 ++ (⟨#[10]⟩ : ByteArray)) ++ a1).data.toList = a0.data.toList ++ 10 :: a1.data.toList := by
          rw [bapp, bapp]
          simp
        have e1 : (a0 ++ (⟨#[10]⟩ : ByteArray)).size = a0.size + 1 := ByteArray.size_append
        have e2 : ((a0 ++ (⟨#[10]⟩ : ByteArray)) ++ a1).size = a0.size + 1 + a1.size := by rw [ByteArray.size_append, e1]
        have hl2 := ev_Lex_ok (by rw [e2]; omega) (by rw [hX]; exact hall)
        have hln : (((ts ++ us.map (Lex.Tok.shift (a0.size + 1))).map toS).length : Int) = (ts.length : Int) + (us.length : Int) := by rw [len_toS, List.length_append, List.length_map]; omega
        refine Ev.step (f := fun k => (lexer_Lex.f k ((a0 ++ (⟨#[10]⟩ : ByteArray)) ++ a1)).bind fun bt213 => (if bt213.2.2 = 0 then (majordomolaw11_LexerHalves.j1 k a0 (ts.map toS) (us.map toS) bt213.1 ((bt213.1.length : Int) != (wrap64 (((ts.map toS).length : Int) + ((us.map toS).length : Int))))) else (majordomolaw11_LexerHalves.j1 k a0 (ts.map toS) (us.map toS) bt213.1 true))) (fun k => ?_) ?_
        · simp only [majordomolaw11_LexerHalves.j0]
          rw [if_neg (by decide), if_pos (by omega), if_pos (by rw [e1]; omega)]
        refine Ev.bind hl2 ?_
        have hne : ((((ts ++ us.map (Lex.Tok.shift (a0.size + 1))).map toS).length : Int) != wrap64 (((ts.map toS).length : Int) + ((us.map toS).length : Int))) = false := by
          rw [bne_eq_false_iff_eq, hln, len_toS, len_toS]
          exact (w64 _ _ rfl (by omega) (by omega)).symm
        dsimp only
        rw [hne]
        simp only [if_true]
        refine Ev.step (fun k => ?_) (ev_hal_l0 a0 hz0 ts us (by omega) (by omega) (fun u hu => by have := hat1 u hu; rw [← size_list] at this; omega) (ts.length + us.length) 0 (by omega) (by omega))
        simp only [majordomolaw11_LexerHalves.j1]
        rw [if_neg (by decide)]
        rfl
    · refine Ev.bind hE0 (Ev.bind hE1 ?_)
      dsimp only
      refine Ev.congr (fun k => ?_) (ev_hal_j0 a0 a1 (ts.map toS) L1)
      rw [if_pos rfl, if_pos rfl, if_neg hne1]
  · rcases ev_Lex_any a1 with ⟨us, hz1, hx1, hE1⟩ | ⟨L1, p1, e1, hne1, hE1⟩
    · refine Ev.bind hE0 (Ev.bind hE1 ?_)
      dsimp only
      refine Ev.congr (fun k => ?_) (ev_hal_j0 a0 a1 L0 (us.map toS))
      rw [if_pos rfl, if_neg hne0]
    · refine Ev.bind hE0 (Ev.bind hE1 ?_)
      dsimp only
      refine Ev.congr (fun k => ?_) (ev_hal_j0 a0 a1 L0 L1)
      rw [if_pos rfl, if_neg hne0]
end Go.Proofs.YtjjhopcbipedaaaDoor.PX
