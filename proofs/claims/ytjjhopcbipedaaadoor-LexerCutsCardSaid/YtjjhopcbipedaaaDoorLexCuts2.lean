/- LexerCuts' plain law, last part: Lex, Name, Type and Keyword answer as the document says. -/
import Derived.Test.YtjjhopcbipedaaaDoorLexCuts
namespace Go.Proofs.YtjjhopcbipedaaaDoor.PX
open Go.RowKit Go.Proofs.YtjjhopcbipedaaaDoorW.PrintWords Go.Proofs.YtjjhopcbipedaaaDoorW.PrintLast Go.Proofs.YtjjhopcbipedaaaDoorW.PrintMore
open Lex (wordL lexF Lexes Tok comL idxL isBlank textOf isSmall isGreat isDig isTail partL nameL nameGo runL digL colons signL signs)

/-! ### equal words -/
theorem ev_same_l0 (L : List S29) (hL : L.length ≤ 4611686018427387904) : ∀ (d i : Nat), L.length - i ≤ d → i ≤ L.length → Ev (fun k => majordomoref11_Same.l0 k L L (i : Int)) true := by
  intro d
  induction d with
  | zero =>
    intro i hd hi
    refine Ev.step (f := fun _ => some true) (fun k => ?_) (Ev.now _)
    simp only [majordomoref11_Same.l0]
    rw [if_neg (by omega)]
  | succ d ih =>
    intro i hd hi
    by_cases hlt : i < L.length
    · refine Ev.step (fun k => ?_) (ih (i + 1) (by omega) (by omega))
      simp only [majordomoref11_Same.l0]
      rw [if_pos (by omega), if_pos (by omega), if_pos (by omega), beq_self_eq_true, beq_self_eq_true, beq_self_eq_true]
      simp only [Bool.not_true, Bool.or_self, Bool.false_eq_true, if_false]
      rw [w64 ((i : Int) + 1) ((i + 1 : Nat) : Int) (by omega) (by omega) (by omega)]
    · refine Ev.step (f := fun _ => some true) (fun k => ?_) (Ev.now _)
      simp only [majordomoref11_Same.l0]
      rw [if_neg (by omega)]
theorem ev_same (L : List S29) (hL : L.length ≤ 4611686018427387904) : Ev (fun k => majordomoref11_Same.f k L L) true := by
  refine Ev.congr (fun k => ?_) (ev_same_l0 L hL L.length 0 (by omega) (by omega))
  unfold majordomoref11_Same.f
  rw [if_pos rfl]
  rfl

/-! ### Lex -/
theorem ev_ref_Lex (s : ByteArray) (hz : s.size ≤ 65536) : Ev (fun k => majordomoref11_Lex.f k s) (lexRes [] (lexOf s)) := by
  refine Ev.congr (f := fun k => majordomoref11_Lex.l0 k s [] ((0 : Nat) : Int)) (fun k => ?_) ?_
  · unfold majordomoref11_Lex.f
    rw [if_neg (by omega)]
    rfl
  · exact ev_ref_lexGo s hz s.size 0 [] (by omega) (by omega) (by simp; omega)
theorem ev_ref_Lex_long (s : ByteArray) (hz : 65536 < s.size) : Ev (fun k => majordomoref11_Lex.f k s) ([], 0, 5) := by
  refine Ev.congr (f := fun _ => some ([], 0, 5)) (fun k => ?_) (Ev.now _)
  unfold majordomoref11_Lex.f
  rw [if_pos (by omega)]
/-- Both answer the same, and not too long. -/
theorem ev_both (s : ByteArray) : ∃ R : List S29 × Int × Int, R.1.length ≤ 65536 ∧ Ev (fun k => lexer_Lex.f k s) R ∧ Ev (fun k => majordomoref11_Lex.f k s) R := by
  by_cases hz : s.size ≤ 65536
  · refine ⟨_, ?_, ev_Lex s hz, ev_ref_Lex s hz⟩
    cases hx : lexOf s with
    | inr q => simp [lexRes]
    | inl ts =>
      have hlx := Lex.lexF_lexes _ _ _ _ (by rw [size_list]; exact Nat.le_refl _) hx
      have := (Lex.joined_len hlx).2
      rw [← size_list] at this
      simp only [lexRes, List.nil_append, List.length_map]
      omega
  · exact ⟨_, by simp, ev_Lex_long s (by omega), ev_ref_Lex_long s (by omega)⟩

/-! ### Name -/
theorem ev_Name (s : ByteArray) (hz : s.size ≤ 4611686018427387904) : Ev (fun k => lexer_Name.f k s) (nameS [] s.data.toList) := by
  rw [nameS_is]
  by_cases he : s.data.toList = []
  · refine Ev.congr (f := fun _ => some false) (fun k => ?_) ?_
    · unfold lexer_Name.f
      rw [if_pos ((nil_iff s).2 he)]
    · rw [decide_eq_false (fun h => h he), Bool.false_and]
      exact Ev.now _
  · rw [decide_eq_true he, Bool.true_and]
    refine Ev.congr (f := fun k => (lexer_name.f k s).bind fun t265 => (some (t265 == (s.size : Int)))) (fun k => ?_) (Ev.bind (ev_name s hz) ?_)
    · unfold lexer_Name.f
      rw [if_neg (fun h => he ((nil_iff s).1 h))]
    · refine Ev.congr (f := fun _ => some (decide (nameL s.data.toList = s.data.toList.length))) (fun k => ?_) (Ev.now _)
      congr 1
      rw [Bool.eq_iff_iff, beq_iff_eq, decide_eq_true_eq, ← size_list]
      omega

/-! ### Type -/
theorem ev_Type (s : ByteArray) (hz : s.size ≤ 4611686018427387904) : Ev (fun k => lexer_Type.f k s) (typeB s.data.toList) := by
  cases hd : s.data.toList with
  | nil =>
    refine Ev.congr (f := fun _ => some false) (fun k => ?_) (Ev.now _)
    unfold lexer_Type.f
    rw [if_pos ((nil_iff s).2 hd)]
  | cons b r =>
    have hs : s.size = r.length + 1 := by rw [size_list, hd]; rfl
    have hr : (s.extract 1 s.size).data.toList = r := by rw [Lib.extract_to_end, hd]; rfl
    refine Ev.congr (f := fun k => (lexer_class.f k (b.toNat : Int)).bind fun t266 => (if t266 = 4 then some ((1 + runL r : Nat) == r.length + 1) else (some false))) (fun k => ?_) (Ev.bind (ev_class b) ?_)
    · unfold lexer_Type.f
      rw [if_neg (fun h => by rw [nil_iff, hd] at h; cases h), if_pos (by omega), bt_head hd]
      congr 1
      funext t
      by_cases ht : t = 4
      · rw [if_pos ht, if_pos ht, if_pos (by omega)]
        unfold lexer_run.f runLen
        rw [hr]
        have := Lex.runL_le r
        rw [Option.bind_some, w64 (1 + (runL r : Int)) ((1 + runL r : Nat) : Int) (by omega) (by omega) (by omega)]
        congr 1
        rw [Bool.eq_iff_iff, beq_iff_eq, beq_iff_eq]
        omega
      · rw [if_neg ht, if_neg ht]
    · have hc := (cls_byte b).2.1
      show Ev _ (isGreat b && r.all isTail)
      cases hg : isGreat b with
      | false => rw [hg] at hc; rw [if_neg (of_decide_eq_false hc)]; exact Ev.now _
      | true =>
        rw [hg] at hc
        rw [if_pos (of_decide_eq_true hc), Bool.true_and]
        refine Ev.congr (f := fun _ => some (r.all isTail)) (fun k => ?_) (Ev.now _)
        congr 1
        have hle := Lex.runL_le r
        rw [Bool.eq_iff_iff, beq_iff_eq]
        constructor
        · intro h
          have := all_tw isTail r r.length (by unfold Lex.runL at h; omega)
          rwa [List.take_length] at this
        · intro h
          have : r.takeWhile isTail = r := by
            rw [List.all_eq_true] at h
            have : ∀ l : List UInt8, (∀ b ∈ l, isTail b = true) → l.takeWhile isTail = l := by
              intro l
              induction l with
              | nil => intro _; rfl
              | cons b l ih => intro hl; rw [List.takeWhile_cons, hl b (by simp), if_pos rfl, ih (fun x hx => hl x (by simp [hx]))]
            exact this r h
          unfold Lex.runL
          rw [this]
          omega

/-! ### Keyword -/
theorem ev_index (L : List ByteArray) (hL : L.length ≤ 4611686018427387904) (x : ByteArray) : ∀ (d i : Nat), L.length - i ≤ d → i ≤ L.length → ∃ v, Ev (fun k => slices_Index_string_string.l0 k L x (L.length : Int) (i : Int)) v ∧ decide (v ≥ 0) = (L.drop i).any (fun y => decide (x.toList = y.toList)) := by
  have hend : ∀ i : Nat, i = L.length → ∃ v, Ev (fun k => slices_Index_string_string.l0 k L x (L.length : Int) (i : Int)) v ∧ decide (v ≥ 0) = (L.drop i).any (fun y => decide (x.toList = y.toList)) := by
    intro i hi
    refine ⟨-1, Ev.step (f := fun _ => some (-1)) (fun k => ?_) (Ev.now _), ?_⟩
    · simp only [slices_Index_string_string.l0]
      rw [if_neg (by omega)]
    · rw [List.drop_eq_nil_iff.2 (by omega)]; rfl
  intro d
  induction d with
  | zero => intro i hd hi; exact hend i (by omega)
  | succ d ih =>
    intro i hd hi
    by_cases hlt : i < L.length
    · have hrd : rdOf ByteArray.empty L (i : Int) = L[i] := by
        unfold rdOf
        simp [hlt]
      rw [List.drop_eq_getElem_cons hlt, List.any_cons]
      by_cases hx : x.toList = L[i].toList
      · refine ⟨(i : Int), Ev.step (f := fun _ => some (i : Int)) (fun k => ?_) (Ev.now _), ?_⟩
        · simp only [slices_Index_string_string.l0]
          rw [if_pos (by omega), if_pos (by omega), if_pos (by omega), hrd, if_pos hx]
        · rw [decide_eq_true hx, Bool.true_or, decide_eq_true (by omega)]
      · obtain ⟨v, hv, e⟩ := ih (i + 1) (by omega) (by omega)
        refine ⟨v, Ev.step (fun k => ?_) hv, ?_⟩
        · simp only [slices_Index_string_string.l0]
          rw [if_pos (by omega), if_pos (by omega), if_pos (by omega), hrd, if_neg hx, w64 ((i : Int) + 1) ((i + 1 : Nat) : Int) (by omega) (by omega) (by omega)]
        · rw [e, decide_eq_false hx, Bool.false_or]
    · exact hend i (by omega)
theorem ev_Keyword (s : ByteArray) : ∃ v, Ev (fun k => lexer_Keyword.f k s) v ∧ majordomoref11_Keyword.f s = some v := by
  obtain ⟨v, hv, e⟩ := ev_index ([(⟨#[99, 108, 97, 115, 115]⟩ : ByteArray), (⟨#[100, 101, 102, 105, 110, 101]⟩ : ByteArray), (⟨#[105, 110, 99, 108, 117, 100, 101]⟩ : ByteArray), (⟨#[105, 102]⟩ : ByteArray), (⟨#[101, 108, 115, 101]⟩ : ByteArray), (⟨#[116, 114, 117, 101]⟩ : ByteArray), (⟨#[102, 97, 108, 115, 101]⟩ : ByteArray), (⟨#[97, 110, 100]⟩ : ByteArray), (⟨#[111, 114]⟩ : ByteArray)] : List ByteArray) (by decide) s 9 0 (by decide) (by decide)
  refine ⟨decide (v ≥ 0), ?_, ?_⟩
  · unfold lexer_Keyword.f slices_Contains_string_string.f slices_Index_string_string.f
    exact Ev.bind (Ev.bind hv (Ev.now _)) (Ev.now _)
  · rw [e]
    simp only [List.drop_zero, List.any_cons, List.any_nil, Bool.or_false]
    simp only [ByteArray.toList_eq]
    unfold majordomoref11_Keyword.f
    simp only [ByteArray.toList_eq]
    repeat' (split; · simp [*])
    simp [*]

/-! ### the law -/
theorem ev_LexerCuts (a0 : ByteArray) (w0 : a0.size ≤ 140737488351232) : Ev (fun k => majordomolaw11_LexerCuts.f k a0) true := by
  unfold majordomolaw11_LexerCuts.f
  obtain ⟨R, hR, h1, h2⟩ := ev_both a0
  obtain ⟨v, h3, h4⟩ := ev_Keyword a0
  refine Ev.bind ev_shown (Ev.bind h1 (Ev.bind h2 (Ev.bind (ev_same R.1 (by omega)) ?_)))
  simp only [if_true]
  refine Ev.bind (ev_Name a0 (by omega)) (Ev.bind (ev_ref_name a0 (by omega)) ?_)
  simp only [beq_self_eq_true, if_true]
  refine Ev.bind (ev_Type a0 (by omega)) (Ev.bind (ev_ref_type a0 (by omega)) ?_)
  simp only [beq_self_eq_true, if_true]
  refine Ev.bind h3 ?_
  rw [h4]
  simp only [Option.bind_some, beq_self_eq_true]
  exact Ev.now _
end Go.Proofs.YtjjhopcbipedaaaDoor.PX
