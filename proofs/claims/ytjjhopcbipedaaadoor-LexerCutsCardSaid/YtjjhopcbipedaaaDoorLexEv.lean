/- What the program's Lex answers: the words of the text, as the plain law has them. -/
import Derived.Test.YtjjhopcbipedaaaDoorPXx5
import Derived.Test.YtjjhopcbipedaaaDoorLexLaws
namespace Go.Proofs.YtjjhopcbipedaaaDoor.PX
open Go.RowKit Go.Proofs.YtjjhopcbipedaaaDoorW.PrintWords Go.Proofs.YtjjhopcbipedaaaDoorW.PrintLast Go.Proofs.YtjjhopcbipedaaaDoorW.PrintMore
open Lex (wordL lexF Lexes Tok comL idxL isBlank)

def toS (t : Tok) : S29 := ⟨(t.kind : Int), ⟨t.text.toArray⟩, (t.at_ : Int)⟩
def lexRes (acc : List S29) : List Tok ⊕ Nat → List S29 × Int × Int
  | .inl ts => (acc ++ ts.map toS, 0, 0)
  | .inr q => ([], (q : Int), 110)
theorem extract_mk (s : ByteArray) (p lo hi : Nat) : (s.extract p s.size).extract lo hi = ⟨(((s.data.toList.drop p).take hi).drop lo).toArray⟩ := by
  apply Go.WideShapes.bytes_inj
  rw [Lib.extract_data, Lib.extract_to_end]
  simp only [List.drop_take]
theorem ev_lexGo (s : ByteArray) (hz : s.size ≤ 65536) : ∀ (f p : Nat) (acc : List S29), p ≤ s.size → s.size ≤ f + p → acc.length + (s.size - p) ≤ 65536 →
    Ev (fun k => lexer_Lex.l0 k s acc (p : Int)) (lexRes acc (lexF f p (s.data.toList.drop p))) := by
  have hl := size_list s
  intro f
  induction f with
  | zero =>
    intro p acc h1 h2 h3
    obtain rfl : p = s.size := by omega
    refine Ev.step (f := fun _ => some (acc, 0, 0)) (fun k => ?_) ?_
    · simp only [lexer_Lex.l0]
      rw [if_neg (by omega)]
    · have e : lexRes acc (lexF 0 s.size (s.data.toList.drop s.size)) = (acc, 0, 0) := by simp [lexF, lexRes]
      rw [e]
      exact Ev.now _
  | succ f ih =>
    intro p acc h1 h2 h3
    cases hd : s.data.toList.drop p with
    | nil =>
      have hp : p = s.size := by
        have := congrArg List.length hd
        simp only [List.length_drop, List.length_nil] at this
        omega
      refine Ev.step (f := fun _ => some (acc, 0, 0)) (fun k => ?_) ?_
      · simp only [lexer_Lex.l0]
        rw [if_neg (by omega)]
      · have e : lexRes acc (lexF (f + 1) p []) = (acc, 0, 0) := by simp [lexF, lexRes]
        rw [e]
        exact Ev.now _
    | cons b r =>
      have hlen : s.size - p = r.length + 1 := by
        have := congrArg List.length hd
        simp only [List.length_drop, List.length_cons] at this
        omega
      have hx : (s.extract ((p : Int).toNat) s.size).data.toList = b :: r := by rw [Int.toNat_natCast, Lib.extract_to_end, hd]
      have hxs : ((s.extract ((p : Int).toNat) s.size).size : Int) = (r.length : Int) + 1 := by rw [size_list, hx]; simp
      have hbt := bt_head hx
      have hcl := cls_byte b
      refine Ev.step (f := fun k => (lexer_class.f k (b.toNat : Int)).bind fun t109 => (if t109 = 1 then (lexer_Lex.l0 k s acc (wrap64 ((p : Int) + 1))) else (if t109 = 2 then ((strings_IndexByte.f (s.extract ((p : Int).toNat) s.size) 10).bind fun t110 => (if t110 ≥ 0 then (lexer_Lex.l0 k s acc (wrap64 ((p : Int) + t110))) else (lexer_Lex.l0 k s acc (s.size : Int)))) else ((lexer_word.f (s.extract ((p : Int).toNat) s.size)).bind fun bt111 => (if bt111.2.2.2 = 0 then (some (([] : List (S29)), (p : Int), 110)) else (if acc.length < 4398046511104 then (lexer_Lex.l0 k s (acc ++ [(⟨bt111.1, bt111.2.1, (p : Int)⟩ : S29)]) (wrap64 ((p : Int) + bt111.2.2.2))) else (none))))))) (fun k => ?_) ?_
      · simp only [lexer_Lex.l0]
        rw [if_pos (by omega), if_pos (by omega), if_pos (by omega), if_pos (by omega), hbt]
      refine Ev.bind (ev_class b) ?_
      unfold lexF
      by_cases hb : isBlank b = true
      · rw [if_pos hb]
        rw [hb] at hcl
        have e1 := of_decide_eq_true hcl.2.2.2.2.1
        refine Ev.congr (f := fun k => lexer_Lex.l0 k s acc ((p + 1 : Nat) : Int)) (fun k => ?_) ?_
        · rw [if_pos e1, w64 _ ((p + 1 : Nat) : Int) (by omega) (by omega) (by omega)]
        · have := ih (p + 1) acc (by omega) (by omega) (by omega)
          have e2 : s.data.toList.drop (p + 1) = r := by rw [← List.drop_drop, hd]; rfl
          rwa [e2] at this
      · have hb' : isBlank b = false := by simpa using hb
        rw [if_neg hb]
        rw [hb'] at hcl
        have e1 := of_decide_eq_false hcl.2.2.2.2.1
        by_cases h35 : b = 35
        · rw [if_pos h35]
          have e2 : cls (b.toNat : Int) = 2 := of_decide_eq_true (hcl.2.2.2.2.2.trans (by rw [h35]; rfl))
          have hib : strings_IndexByte.f (s.extract ((p : Int).toNat) s.size) 10 = some (match idxL (b :: r) 10 with | none => -1 | some i => (i : Int)) := by
            unfold strings_IndexByte.f stringslite_IndexByte.f
            rw [hx]
            simp only [Option.bind_some]
            rw [show ((10 : Int).toNat.toUInt8) = 10 from rfl, Lex.indexByte_idx]
            cases idxL (b :: r) 10 <;> rfl
          have hm := Lex.comL_le (b :: r)
          simp only [List.length_cons] at hm
          have hm1 : 1 ≤ comL (b :: r) := by rw [h35]; exact Lex.comL_pos r
          refine Ev.congr (f := fun k => lexer_Lex.l0 k s acc ((p + comL (b :: r) : Nat) : Int)) (fun k => ?_) ?_
          · rw [if_neg e1, if_pos e2, hib, Option.bind_some]
            unfold comL at hm ⊢
            cases hi : idxL (b :: r) 10 with
            | none =>
              rw [hi] at hm
              simp only
              rw [if_neg (by omega)]
              congr 1
              simp only [List.length_cons]
              omega
            | some i =>
              rw [hi] at hm
              simp only at hm ⊢
              rw [if_pos (by omega), w64 _ ((p + i : Nat) : Int) (by omega) (by omega) (by omega)]
          · have := ih (p + comL (b :: r)) acc (by omega) (by omega) (by omega)
            rwa [← List.drop_drop, hd] at this
        · rw [if_neg h35]
          have e2 : cls (b.toNat : Int) ≠ 2 := of_decide_eq_false (hcl.2.2.2.2.2.trans (by simpa using h35))
          have hw : lexer_word.f (s.extract ((p : Int).toNat) s.size) = some (match wordL (b :: r) with
              | none => (0, ⟨#[]⟩, 0, 0)
              | some (k, lo, hi, n) => ((k : Int), (s.extract ((p : Int).toNat) s.size).extract lo hi, 0, (n : Int))) := by
            unfold lexer_word.f
            rw [hx, if_neg (by simp; omega)]
            cases wordL (b :: r) <;> rfl
          cases hwl : wordL (b :: r) with
          | none =>
            rw [hwl] at hw
            refine Ev.congr (f := fun _ => some ([], (p : Int), 110)) (fun k => ?_) (Ev.now _)
            rw [if_neg e1, if_neg e2, hw]
            simp only [Option.bind_some, if_true]
          | some w =>
            obtain ⟨k, lo, hi, n⟩ := w
            rw [hwl] at hw
            simp only at hw
            have hok := Lex.wordL_ok hwl
            simp only [List.length_cons] at hok
            have hi2 := ih (p + n) (acc ++ [toS ⟨k, ((b :: r).take hi).drop lo, p⟩]) (by omega) (by omega) (by simp only [List.length_append, List.length_singleton]; omega)
            rw [← List.drop_drop, hd] at hi2
            have hres : lexRes (acc ++ [toS ⟨k, ((b :: r).take hi).drop lo, p⟩]) (lexF f (p + n) ((b :: r).drop n)) = lexRes acc (match lexF f (p + n) ((b :: r).drop n) with
                | .inr q => .inr q
                | .inl ts => .inl (⟨k, ((b :: r).take hi).drop lo, p⟩ :: ts)) := by
              cases lexF f (p + n) ((b :: r).drop n) with
              | inl ts => simp [lexRes]
              | inr q => rfl
            rw [hres] at hi2
            refine Ev.congr (fun m => ?_) hi2
            rw [if_neg e1, if_neg e2, hw]
            simp only [Option.bind_some]
            rw [if_neg (by omega), if_pos (by omega), w64 _ ((p + n : Nat) : Int) (by omega) (by omega) (by omega), Int.toNat_natCast, extract_mk, hd]
            rfl
def lexOf (s : ByteArray) : List Tok ⊕ Nat := lexF s.size 0 s.data.toList
theorem ev_Lex (s : ByteArray) (hz : s.size ≤ 65536) : Ev (fun k => lexer_Lex.f k s) (lexRes [] (lexOf s)) := by
  refine Ev.congr (f := fun k => lexer_Lex.l0 k s [] ((0 : Nat) : Int)) (fun k => ?_) ?_
  · unfold lexer_Lex.f
    rw [if_neg (by omega)]
    rfl
  · exact ev_lexGo s hz s.size 0 [] (by omega) (by omega) (by simp; omega)
theorem ev_Lex_long (s : ByteArray) (hz : 65536 < s.size) : Ev (fun k => lexer_Lex.f k s) ([], 0, 5) := by
  refine Ev.congr (f := fun _ => some ([], 0, 5)) (fun k => ?_) (Ev.now _)
  unfold lexer_Lex.f
  rw [if_pos (by omega)]
/-- The words of a text. -/
theorem ev_Lex_ok {s : ByteArray} (hz : s.size ≤ 65536) {ts : List Tok} (h : Lexes 0 s.data.toList ts) : Ev (fun k => lexer_Lex.f k s) (ts.map toS, 0, 0) := by
  have := ev_Lex s hz
  unfold lexOf at this
  rw [Lex.lexes_lexF h _ (by rw [size_list]; exact Nat.le_refl _)] at this
  simpa [lexRes] using this
end Go.Proofs.YtjjhopcbipedaaaDoor.PX
