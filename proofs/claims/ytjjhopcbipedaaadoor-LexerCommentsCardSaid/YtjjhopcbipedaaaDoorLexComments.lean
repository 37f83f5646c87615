/- LexerComments' plain law: a comment behind a line, and blank lines ahead, change no word but its place. -/
import Derived.Test.YtjjhopcbipedaaaDoorLexMore
import Derived.Test.YtjjhopcbipedaaaDoorPXx8
namespace Go.Proofs.YtjjhopcbipedaaaDoor.PX
open Go.RowKit Go.Proofs.YtjjhopcbipedaaaDoorW.PrintWords Go.Proofs.YtjjhopcbipedaaaDoorW.PrintLast Go.Proofs.YtjjhopcbipedaaaDoorW.PrintMore
open Lex (wordL lexF Lexes Tok comL idxL isBlank textOf)

theorem ev_com_l1 (ts : List Tok) (hb : ts.length ≤ 65536) (hat : ∀ t ∈ ts, t.at_ ≤ 65536) : ∀ (d i : Nat), ts.length - i ≤ d → i ≤ ts.length → Ev (fun k => majordomolaw11_LexerComments.l1 k (ts.map toS) ((ts.map (Lex.Tok.shift 5)).map toS) (i : Int)) true := by
  have h1 := len_toS ts
  have h2 := len_toS (ts.map (Lex.Tok.shift 5))
  have h3 : (ts.map (Lex.Tok.shift 5)).length = ts.length := List.length_map _
  intro d
  induction d with
  | zero =>
    intro i hd hi
    refine Ev.step (f := fun _ => some true) (fun k => ?_) (Ev.now _)
    simp only [majordomolaw11_LexerComments.l1]
    rw [if_neg (by omega)]
  | succ d ih =>
    intro i hd hi
    by_cases hlt : i < ts.length
    · obtain ⟨t, ht, hm⟩ := get_lt hlt
      have hu : (ts.map (Lex.Tok.shift 5))[i]? = some (Lex.Tok.shift 5 t) := by rw [List.getElem?_map, ht]; rfl
      have ha := hat t hm
      refine Ev.step (fun k => ?_) (ih (i + 1) (by omega) (by omega))
      simp only [majordomolaw11_LexerComments.l1]
      rw [if_pos (by omega), if_pos (by omega), if_pos (by omega), rd_toS _ i _ hu, rd_toS ts i t ht, if_pos (show (toS (Lex.Tok.shift 5 t)).f0 = (toS t).f0 from rfl), if_pos (show (toS (Lex.Tok.shift 5 t)).f1.toList = (toS t).f1.toList from rfl),
        if_pos (show (toS (Lex.Tok.shift 5 t)).f2 = wrap64 ((toS t).f2 + 5) from by simp only [toS, Lex.Tok.shift]; rw [w64 ((t.at_ : Int) + 5) ((t.at_ + 5 : Nat) : Int) (by omega) (by omega) (by omega)]), w64 ((i : Int) + 1) ((i + 1 : Nat) : Int) (by omega) (by omega) (by omega)]
    · refine Ev.step (f := fun _ => some true) (fun k => ?_) (Ev.now _)
      simp only [majordomolaw11_LexerComments.l1]
      rw [if_neg (by omega)]
theorem ev_com_j1 (a0 a1 : ByteArray) (L : List S29) : Ev (fun k => majordomolaw11_LexerComments.j1 k a0 a1 true L true) true := by
  refine Ev.step (f := fun _ => some true) (fun k => ?_) (Ev.now _)
  simp only [majordomolaw11_LexerComments.j1]
  rw [if_pos trivial]
/-- The bytes of the comment, looked through. -/
theorem ev_com_l0 (a0 a1 : ByteArray) (w1 : a1.size ≤ 140737488351232) (L : List S29) (e : Int)
    (hj : (∀ b ∈ a1.data.toList, b ≠ 10) → Ev (fun k => if e = 0 then majordomolaw11_LexerComments.j1 k a0 a1 true L (decide ((wrap64 ((a0.size : Int) + (a1.size : Int))) > 65527)) else majordomolaw11_LexerComments.j1 k a0 a1 true L true) true) :
    ∀ (d p : Nat), a1.size - p ≤ d → p ≤ a1.size → (∀ b ∈ a1.data.toList.take p, b ≠ 10) → Ev (fun k => majordomolaw11_LexerComments.l0 k a0 a1 true L e (p : Int)) true := by
  have hl := size_list a1
  intro d
  induction d with
  | zero =>
    intro p hd hp hb
    obtain rfl : p = a1.size := by omega
    refine Ev.step (fun k => ?_) (hj (by rw [hl, List.take_length] at hb; exact hb))
    simp only [majordomolaw11_LexerComments.l0]
    rw [if_neg (by omega), if_pos trivial]
  | succ d ih =>
    intro p hd hp hb
    by_cases hlt : p < a1.size
    · cases hdp : a1.data.toList.drop p with
      | nil =>
        have := congrArg List.length hdp
        simp only [List.length_drop, List.length_nil] at this
        omega
      | cons b r =>
        have hbt := bt_drop hdp
        by_cases hb10 : b = 10
        · refine Ev.step (f := fun _ => some true) (fun k => ?_) (Ev.now _)
          simp only [majordomolaw11_LexerComments.l0]
          rw [if_pos (by omega), if_pos (by omega), hbt, if_pos (by rw [hb10]; rfl)]
        · have hne : ¬ ((b.toNat : Int) = 10) := fun h => hb10 (UInt8.toNat_inj.1 (by simpa using (Int.ofNat_inj.1 h)))
          have hpb : ∀ x ∈ a1.data.toList.take (p + 1), x ≠ 10 := by
            intro x hx
            have hg : a1.data.toList[p]? = some b := by
              have := congrArg (fun l => l[0]?) hdp
              simpa using this
            rw [List.take_add_one, hg] at hx
            rcases List.mem_append.1 hx with hx | hx
            · exact hb x hx
            · simp at hx; rw [hx]; exact hb10
          refine Ev.step (fun k => ?_) (ih (p + 1) (by omega) (by omega) hpb)
          simp only [majordomolaw11_LexerComments.l0]
          rw [if_pos (by omega), if_pos (by omega), hbt, if_neg hne, w64 ((p : Int) + 1) ((p + 1 : Nat) : Int) (by omega) (by omega) (by omega)]
    · obtain rfl : p = a1.size := by omega
      refine Ev.step (fun k => ?_) (hj (by rw [hl, List.take_length] at hb; exact hb))
      simp only [majordomolaw11_LexerComments.l0]
      rw [if_neg (by omega), if_pos trivial]
theorem ev_LexerComments (a0 a1 : ByteArray) (w0 : a0.size ≤ 140737488351232) (w1 : a1.size ≤ 140737488351232) : Ev (fun k => majordomolaw11_LexerComments.f k a0 a1) true := by
  unfold majordomolaw11_LexerComments.f
  refine Ev.bind ev_shown ?_
  by_cases hz : a0.size ≤ 65536
  · cases hx : lexOf a0 with
    | inr q =>
      have h1 := ev_Lex a0 hz
      rw [hx] at h1
      refine Ev.bind h1 ?_
      refine ev_com_l0 a0 a1 w1 _ 110 (fun _ => ?_) a1.size 0 (by omega) (by omega) (by simp)
      exact Ev.congr (fun k => by rw [if_neg (by decide)]) (ev_com_j1 a0 a1 _)
    | inl ts =>
      have hlx := Lex.lexF_lexes _ _ _ _ (by rw [size_list]; exact Nat.le_refl _) hx
      refine Ev.bind (ev_Lex_ok hz hlx) ?_
      refine ev_com_l0 a0 a1 w1 _ 0 (fun hc => ?_) a1.size 0 (by omega) (by omega) (by simp)
      have hw : wrap64 ((a0.size : Int) + (a1.size : Int)) = ((a0.size + a1.size : Nat) : Int) := w64 _ _ (by omega) (by omega) (by omega)
      by_cases hs : a0.size + a1.size > 65527
      · refine Ev.congr (fun k => ?_) (ev_com_j1 a0 a1 (ts.map toS))
        rw [if_pos rfl, hw, decide_eq_true (by omega)]
      · have hlen := (Lex.joined_len hlx).2
        have hat := lexes_at hlx
        rw [← size_list] at hlen
        have hcom := Lex.lexes_comment (5 + a0.data.toList.length + 1) a1.data.toList hc
        have hall : Lexes 0 (10 :: 32 :: 9 :: 13 :: 10 :: (a0.data.toList ++ 10 :: 35 :: a1.data.toList)) (ts.map (Lex.Tok.shift 5)) := by
          refine .blank (by decide) (.blank (by decide) (.blank (by decide) (.blank (by decide) (.blank (by decide) ?_))))
          have := (hlx.shift 5).append (b := 35 :: a1.data.toList) (us := []) (by simpa using hcom)
          simpa using this
        have hX : (((((⟨#[10, 32, 9, 13, 10]⟩ : ByteArray) ++ a0) ++ (⟨#[10, 35]⟩ : ByteArray)) ++ a1)).data.toList = 10 :: 32 :: 9 :: 13 :: 10 :: (a0.data.toList ++ 10 :: 35 :: a1.data.toList) := by
          rw [bapp, bapp, bapp]
          simp
        have e1 : ((⟨#[10, 32, 9, 13, 10]⟩ : ByteArray) ++ a0).size = 5 + a0.size := ByteArray.size_append
        have e2 : (((⟨#[10, 32, 9, 13, 10]⟩ : ByteArray) ++ a0) ++ (⟨#[10, 35]⟩ : ByteArray)).size = 5 + a0.size + 2 := by rw [ByteArray.size_append, e1]; rfl
        have e3 : ((((⟨#[10, 32, 9, 13, 10]⟩ : ByteArray) ++ a0) ++ (⟨#[10, 35]⟩ : ByteArray)) ++ a1).size = 5 + a0.size + 2 + a1.size := by rw [ByteArray.size_append, e2]
        have hl2 := ev_Lex_ok (by rw [e3]; omega) (by rw [hX]; exact hall)
        refine Ev.congr (f := fun k => majordomolaw11_LexerComments.j1 k a0 a1 true (ts.map toS) false) (fun k => ?_) ?_
        · rw [if_pos rfl, hw, decide_eq_false (by omega)]
        clear hw
        refine Ev.step (f := fun k => (lexer_Lex.f k ((((⟨#[10, 32, 9, 13, 10]⟩ : ByteArray) ++ a0) ++ (⟨#[10, 35]⟩ : ByteArray)) ++ a1)).bind fun bt191 => (if bt191.2.2 = 0 then (majordomolaw11_LexerComments.j2 k (ts.map toS) bt191.1 ((bt191.1.length : Int) != ((ts.map toS).length : Int))) else (majordomolaw11_LexerComments.j2 k (ts.map toS) bt191.1 true))) (fun k => ?_) ?_
        · simp only [majordomolaw11_LexerComments.j1]
          rw [if_neg (by decide), if_pos (by omega), if_pos (by rw [e1]; omega), if_pos (by rw [e2]; omega)]
        refine Ev.bind hl2 ?_
        have hne : ((((ts.map (Lex.Tok.shift 5)).map toS).length : Int) != ((ts.map toS).length : Int)) = false := by rw [bne_eq_false_iff_eq, len_toS, len_toS, List.length_map]
        dsimp only
        rw [hne]
        simp only [if_true]
        refine Ev.step (fun k => ?_) (ev_com_l1 ts (by omega) (fun t ht => by have := hat t ht; rw [← size_list] at this; omega) ts.length 0 (by omega) (by omega))
        simp only [majordomolaw11_LexerComments.j2]
        rw [if_neg (by decide)]
        rfl
  · refine Ev.bind (ev_Lex_long a0 (by omega)) ?_
    refine ev_com_l0 a0 a1 w1 _ 5 (fun _ => ?_) a1.size 0 (by omega) (by omega) (by simp)
    exact Ev.congr (fun k => by rw [if_neg (by decide)]) (ev_com_j1 a0 a1 _)
end Go.Proofs.YtjjhopcbipedaaaDoor.PX
