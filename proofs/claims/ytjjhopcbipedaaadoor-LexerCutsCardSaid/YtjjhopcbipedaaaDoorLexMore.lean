/- Words that the lexer's plain laws share. -/
import Derived.Test.YtjjhopcbipedaaaDoorLexEv
namespace Go.Proofs.YtjjhopcbipedaaaDoor.PX
open Go.RowKit Go.Proofs.YtjjhopcbipedaaaDoorW.PrintWords Go.Proofs.YtjjhopcbipedaaaDoorW.PrintLast Go.Proofs.YtjjhopcbipedaaaDoorW.PrintMore
open Lex (wordL lexF Lexes Tok comL idxL isBlank textOf)
theorem ev_shown : Ev (fun k => majordomolaw11_shown.f k) true := by
  refine Ev.of (majordomolaw11_shown.mono) (k := 60) ?_
  decide +kernel

theorem bt_drop {s : ByteArray} {p : Nat} {b : UInt8} {r : List UInt8} (h : s.data.toList.drop p = b :: r) : bt s (p : Int) = (b.toNat : Int) := by
  have hlt : p < s.data.toList.length := by
    have := congrArg List.length h
    simp only [List.length_drop, List.length_cons] at this
    omega
  have hb : s.data.toList[p]? = some b := by
    have := congrArg (fun l => l[0]?) h
    simpa using this
  obtain ⟨⟨l⟩⟩ := s
  unfold bt
  rw [dif_pos (by simpa [ByteArray.size] using hlt)]
  simp only [Int.toNat_natCast]
  rw [List.getElem?_eq_getElem hlt, Option.some.injEq] at hb
  exact congrArg (fun b : UInt8 => (b.toNat : Int)) hb
theorem bapp (a b : ByteArray) : (a ++ b).data.toList = a.data.toList ++ b.data.toList := by simp
theorem text_of (k : Nat) (t : List UInt8) (p : Int) (hz : t.length ≤ 4611686018427387904) : ∃ X : ByteArray, majordomoref11_Text.f (k : Int) ⟨t.toArray⟩ p = some X ∧ X.data.toList = textOf k t := by
  have hs : (⟨t.toArray⟩ : ByteArray).size ≤ 4611686018427387904 := by rw [size_list]; exact hz
  unfold majordomoref11_Text.f textOf
  rw [if_pos hs]
  refine ⟨_, rfl, ?_⟩
  by_cases h3 : k = 3
  · rw [if_pos (by omega), if_pos h3, bapp]; rfl
  · rw [if_neg (by omega), if_neg h3]
    by_cases h4 : k = 4
    · rw [if_pos (by omega), if_pos h4, bapp, bapp]; rfl
    · rw [if_neg (by omega), if_neg h4]
      by_cases h5 : k = 5
      · rw [if_pos (by omega), if_pos h5, bapp, bapp]; rfl
      · rw [if_neg (by omega), if_neg h5]
theorem rd_toS (all : List Tok) (i : Nat) (t : Tok) (h : all[i]? = some t) : rd_T29 (all.map toS) (i : Int) = toS t := by
  unfold rd_T29
  rw [Int.toNat_natCast, List.getD_eq_getElem?_getD, List.getElem?_map, h]
  rfl

theorem lexes_text {p : Nat} {l : List UInt8} {ts : List Tok} (h : Lexes p l ts) : ∀ t ∈ ts, t.text.length ≤ l.length := by
  induction h with
  | nil p => intro t ht; cases ht
  | blank hb _ ih => intro t ht; have := ih t ht; simp only [List.length_cons]; omega
  | comment _ ih => intro t ht; have := ih t ht; simp only [List.length_drop] at this; omega
  | @word p l ts k lo hi n hw _ ih =>
    intro t ht
    rcases List.mem_cons.1 ht with rfl | ht
    · simp only [List.length_drop, List.length_take]; omega
    · have := ih t ht; simp only [List.length_drop] at this; omega
theorem lexes_at {p : Nat} {l : List UInt8} {ts : List Tok} (h : Lexes p l ts) : ∀ t ∈ ts, t.at_ ≤ p + l.length := by
  induction h with
  | nil p => intro t ht; cases ht
  | blank hb _ ih => intro t ht; have := ih t ht; simp only [List.length_cons]; omega
  | @comment p r ts _ ih => intro t ht; have := ih t ht; have h2 := Lex.comL_le (35 :: r); simp only [List.length_drop] at this; omega
  | @word p l ts k lo hi n hw _ ih =>
    intro t ht
    have hok := Lex.wordL_ok hw
    rcases List.mem_cons.1 ht with rfl | ht
    · simp
    · have := ih t ht; simp only [List.length_drop] at this; omega
theorem alike_len {a b : List Tok} (h : Lex.Alike a b) : a.length = b.length := by
  have := congrArg List.length h
  simpa using this
theorem alike_get {a b : List Tok} (h : Lex.Alike a b) {i : Nat} {x y : Tok} (hx : a[i]? = some x) (hy : b[i]? = some y) : x.kind = y.kind ∧ x.text = y.text := by
  have h2 := congrArg (fun l => l[i]?) h
  simp only [List.getElem?_map, hx, hy, Option.map_some, Option.some.injEq, Prod.mk.injEq] at h2
  exact h2
theorem get_lt {a : List Tok} {i : Nat} (h : i < a.length) : ∃ t, a[i]? = some t ∧ t ∈ a := ⟨a[i], List.getElem?_eq_getElem h, List.getElem_mem h⟩
theorem len_toS (a : List Tok) : ((a.map toS).length : Int) = (a.length : Int) := by rw [List.length_map]
end Go.Proofs.YtjjhopcbipedaaaDoor.PX
