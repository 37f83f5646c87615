/- Chapter 5, the plain law: what rows are held, what their text is; no two tables' rows have the same text. -/
import Derived.Test.YtiobdnnijbfdhaaDoorTabParse
import Derived.Lib.SlTrimSet
import Derived.WideShapes
namespace Go.Proofs.YtiobdnnijbfdhaaDoor.PT
open Go.RowKit Go.Proofs.YtiobdnnijbfdhaaDoorW.PrintWords Go.Proofs.YtiobdnnijbfdhaaDoorW.PrintLast Go.Proofs.YtiobdnnijbfdhaaDoorW.PrintMore
set_option linter.unusedVariables false
def wset : List UInt8 := [97, 98, 99, 100, 101, 102, 103, 104, 105, 106, 107, 108, 109, 110, 111, 112, 113, 114, 115, 116, 117, 118, 119, 120, 121, 122, 65, 66, 67, 68, 69, 70, 71, 72, 73, 74, 75, 76, 77, 78, 79, 80, 81, 82, 83, 84, 85, 86, 87, 88, 89, 90, 48, 49, 50, 51, 52, 53, 54, 55, 56, 57, 46, 95, 45, 47]
theorem dropWhile_nil {α : Type} (p : α → Bool) : ∀ l : List α, l.dropWhile p = [] ↔ ∀ b ∈ l, p b = true
  | [] => by simp
  | x :: l => by
    by_cases h : p x = true
    · simp [h, dropWhile_nil p l]
    · simp [h]
theorem trimS_nil (l cs : List UInt8) : Lib.trimS l cs = [] ↔ ∀ b ∈ l, cs.contains b = true := by
  unfold Lib.trimS Lib.trimLeftS
  rw [dropWhile_nil]
  unfold Lib.trimRightS
  constructor
  · intro h
    have h2 : l.reverse.dropWhile (cs.contains ·) = [] := by
      cases hd : l.reverse.dropWhile (cs.contains ·) with
      | nil => rfl
      | cons x r =>
        exfalso
        have hx := h x (by rw [hd]; simp)
        have hne : ¬ (cs.contains x = true) := by
          have := List.head_dropWhile_not (p := (cs.contains ·)) (l := l.reverse) (by rw [hd]; simp)
          simp only [hd, List.head_cons] at this
          rw [this]
          decide
        exact hne hx
    rw [dropWhile_nil] at h2
    exact fun b hb => h2 b (List.mem_reverse.2 hb)
  · intro h b hb
    have h2 : l.reverse.dropWhile (cs.contains ·) = [] := (dropWhile_nil _ _).2 fun b hb => h b (List.mem_reverse.1 hb)
    rw [h2] at hb
    cases hb
def okW (n : Int) (s : ByteArray) : Bool := decide ((s.size : Int) ≤ n) && s.data.toList.all (wset.contains ·)
theorem word_eq (s : ByteArray) (n : Int) (hn : n ≤ 1000) : tables_word.f s n = some (okW n s) := by
  unfold tables_word.f okW
  by_cases h : (s.size : Int) ≤ n
  · rw [if_pos h, decide_eq_true h]
    unfold strings_Trim.f
    rw [if_pos ⟨by omega, by decide, by decide⟩, Option.bind_some]
    refine congrArg some ?_
    rw [Bool.true_and, ByteArray.toList_eq]
    rw [Bool.eq_iff_iff, beq_iff_eq, List.all_eq_true]
    exact trimS_nil s.data.toList wset
  · rw [if_neg h, decide_eq_false h, Bool.false_and]
theorem ev_index_l (l : List ByteArray) (hl : l.length ≤ 9223372036854775807) : ∀ (d i : Nat), i + d = l.length → ∃ q : Int, Ev (fun k => slices_IndexFunc_string_string.l0 k l (l.length : Int) (i : Int)) q ∧ (0 ≤ q ↔ ¬ (l.drop i).all (okW 64) = true) := by
  intro d
  induction d with
  | zero =>
    intro i hi
    refine ⟨-1, Ev.step (f := fun _ => some (-1)) (fun k => ?_) (Ev.now _), ?_⟩
    · simp only [slices_IndexFunc_string_string.l0]
      rw [if_neg (by omega)]
    · rw [List.drop_eq_nil_of_le (by omega)]
      simp
  | succ d ih =>
    intro i hi
    have hlt : i < l.length := by omega
    have hd : l.drop i = l[i] :: l.drop (i + 1) := List.drop_eq_getElem_cons hlt
    have hrd : rdOf ByteArray.empty l (i : Int) = l[i] := by unfold rdOf; rw [Int.toNat_natCast, List.getD_eq_getElem?_getD, List.getElem?_eq_getElem hlt]; rfl
    have hw : wrap64 ((i : Int) + 1) = ((i + 1 : Nat) : Int) := by unfold wrap64; omega
    have hc : tables_Check_1.f l[i] = some (!(okW 64 l[i])) := by unfold tables_Check_1.f; rw [word_eq _ _ (by decide)]; rfl
    by_cases hb : okW 64 l[i] = true
    · obtain ⟨q, h1, h2⟩ := ih (i + 1) (by omega)
      refine ⟨q, Ev.step (fun k => ?_) h1, ?_⟩
      · simp only [slices_IndexFunc_string_string.l0]
        rw [if_pos (by omega), if_pos (by omega), if_pos (by omega), hrd, hc, hb, hw]
        rfl
      · rw [h2, hd, List.all_cons, hb, Bool.true_and]
    · refine ⟨(i : Int), Ev.step (f := fun _ => some (i : Int)) (fun k => ?_) (Ev.now _), ?_⟩
      · simp only [slices_IndexFunc_string_string.l0]
        rw [if_pos (by omega), if_pos (by omega), if_pos (by omega), hrd, hc, Bool.not_eq_true _ |>.mp hb]
        rfl
      · rw [hd, List.all_cons, Bool.not_eq_true _ |>.mp hb]
        simp
theorem ev_contains (l : List ByteArray) (hl : l.length ≤ 9223372036854775807) : Ev (fun k => slices_ContainsFunc_string_string.f k l) (!(l.all (okW 64))) := by
  obtain ⟨q, h1, h2⟩ := ev_index_l l hl l.length 0 (by omega)
  refine Ev.bind h1 ?_
  rw [List.drop_zero] at h2
  have e : decide (q ≥ 0) = !(l.all (okW 64)) := by
    cases hb : l.all (okW 64) with
    | true => rw [hb] at h2; simp at h2; simp; omega
    | false => rw [hb] at h2; simp at h2; simp; omega
  rw [e]
  exact Ev.now _
/-- What a row is told (Check). -/
def chk (a : ByteArray) (r : S34) : Int := if widthOf a = 0 then 50 else if r.f0.size ≠ 0 ∧ okW 32 r.f0 = true ∧ (r.f1.length : Int) = widthOf a ∧ r.f1.all (okW 64) = true then 0 else 51
theorem size_nil (s : ByteArray) : s.toList = [] ↔ s.size = 0 := by
  rw [ByteArray.toList_eq]
  constructor
  · intro h
    have : s.data.toList.length = 0 := by rw [h]; rfl
    rw [Array.length_toList] at this
    exact this
  · intro h
    have : s.data.toList.length = 0 := by rw [Array.length_toList]; exact h
    exact List.length_eq_zero_iff.1 this
theorem ev_chk (a : ByteArray) (r : S34) (hl : r.f1.length ≤ 9223372036854775807) : Ev (fun k => tables_Check.f k a r.f0 r.f1) (chk a r) := by
  unfold tables_Check.f tables_Width.f chk
  by_cases h0 : widthOf a = 0
  · refine Ev.congr (f := fun _ => some 50) (fun k => ?_) ?_
    · rw [Option.bind_some, if_pos h0]
    · rw [if_pos h0]; exact Ev.now _
  · refine Ev.congr (fun k => ?_) (Ev.bind (ev_contains r.f1 hl) (f := fun k b => (if r.f0.toList = ([] : List UInt8) then (some 51) else ((tables_word.f r.f0 32).bind fun t109 => (if t109 = true then (if (r.f1.length : Int) = widthOf a then (if b = true then (some 51) else (some 0)) else (some 51)) else (some 51))))) ?_)
    · rw [Option.bind_some, if_neg h0]
    · rw [if_neg h0]
      by_cases h1 : r.f0.size = 0
      · rw [if_pos ((size_nil _).2 h1), if_neg (fun h => h.1 h1)]; exact Ev.now _
      · rw [if_neg (fun h => h1 ((size_nil _).1 h)), word_eq _ _ (by decide), Option.bind_some]
        cases h2 : okW 32 r.f0 with
        | false => rw [if_neg (by decide), if_neg (fun h => by cases h.2.1)]; exact Ev.now _
        | true =>
          rw [if_pos rfl]
          by_cases h3 : (r.f1.length : Int) = widthOf a
          · rw [if_pos h3]
            cases h4 : r.f1.all (okW 64) with
            | false => rw [if_pos (show (!false) = true from rfl), if_neg (fun h => by cases h.2.2.2)]; exact Ev.now _
            | true => rw [if_neg (by decide), if_pos ⟨h1, rfl, h3, rfl⟩]; exact Ev.now _
          · rw [if_neg h3, if_neg (fun h => h3 h.2.2.1)]; exact Ev.now _
theorem chk_ok {a : ByteArray} {r : S34} (h : chk a r = 0) : widthOf a ≠ 0 ∧ r.f0.size ≠ 0 ∧ okW 32 r.f0 = true ∧ (r.f1.length : Int) = widthOf a ∧ r.f1.all (okW 64) = true := by
  unfold chk at h
  by_cases h0 : widthOf a = 0
  · rw [if_pos h0] at h; cases h
  · rw [if_neg h0] at h
    by_cases h1 : r.f0.size ≠ 0 ∧ okW 32 r.f0 = true ∧ (r.f1.length : Int) = widthOf a ∧ r.f1.all (okW 64) = true
    · exact ⟨h0, h1⟩
    · rw [if_neg h1] at h; cases h
theorem width_le (a : ByteArray) : 0 ≤ widthOf a ∧ widthOf a ≤ 3 := by
  unfold widthOf
  repeat' split
  all_goals omega
theorem joinTail_len (l : List (List UInt8)) (m : Nat) (h : ∀ x ∈ l, x.length ≤ m) : (Lib.joinTail [58] l).length ≤ l.length * (m + 1) := by
  induction l with
  | nil => simp [Lib.joinTail]
  | cons x r ih =>
    have h1 := h x (by simp)
    have h2 := ih (fun y hy => h y (by simp [hy]))
    simp only [Lib.joinTail, List.map_cons, List.flatten_cons, List.length_append, List.length_cons, List.length_nil] at h2 ⊢
    rw [Nat.add_mul, Nat.one_mul]
    omega
theorem okW_size {n : Int} {s : ByteArray} (h : okW n s = true) : (s.size : Int) ≤ n := by
  unfold okW at h
  rw [Bool.and_eq_true, decide_eq_true_eq] at h
  exact h.1
theorem join_len (l : List (List UInt8)) (m : Nat) (h : ∀ x ∈ l, x.length ≤ m) : (Lib.join l [58]).length ≤ l.length * (m + 1) := by
  cases l with
  | nil => simp [Lib.join_nil]
  | cons x r =>
    rw [Lib.join_cons, List.length_append, List.length_cons]
    have h1 := h x (by simp)
    have h2 := joinTail_len r m (fun y hy => h y (by simp [hy]))
    rw [Nat.add_mul, Nat.one_mul]
    omega
theorem row_len {a : ByteArray} {r : S34} (h : chk a r = 0) : (rowText r).length ≤ 300 ∧ r.f1.length ≤ 3 := by
  obtain ⟨_, _, h2, h3, h4⟩ := chk_ok h
  have hw := width_le a
  have hl : r.f1.length ≤ 3 := by omega
  refine ⟨?_, hl⟩
  have hj := join_len (r.f1.map (·.data.toList)) 64 (fun x hx => by
    obtain ⟨s, hs, rfl⟩ := List.mem_map.1 hx
    have := okW_size (List.all_eq_true.1 h4 s hs)
    rw [Array.length_toList]
    have e : s.data.size = s.size := rfl
    omega)
  have hk := okW_size h2
  have e : r.f0.data.size = r.f0.size := rfl
  unfold rowText
  rw [List.length_map] at hj
  simp only [List.length_append, List.length_cons, List.length_nil, Array.length_toList]
  have : r.f1.length * (64 + 1) ≤ 195 := by omega
  omega
/-- The one row's key is not behind the other's. -/
def notBehind (r : S34) : Option S34 → Bool
  | none => false
  | some q => Op.bytesLess r.f0.toList q.f0.toList || (r.f0.toList == q.f0.toList)
def bad (a : ByteArray) : Option S34 → List S34 → Bool
  | _, [] => false
  | p, r :: l => decide (chk a r ≠ 0) || notBehind r p || bad a (some r) l
def textB (l : List S34) : List UInt8 := l.flatMap rowText
def prn (a : ByteArray) (l : List S34) : List Int × Int :=
  if widthOf a = 0 then ([], 50) else if 32 < l.length then ([], 5) else if bad a none l = true then ([], 51) else if 2432 < (textB l).length then ([], 5) else (numsOf (textB l), 0)
theorem rd_get {l : List S34} {i : Nat} (h : i < l.length) : rd_T34 l (i : Int) = l[i] := by unfold rd_T34; rw [Int.toNat_natCast, List.getD_eq_getElem?_getD, List.getElem?_eq_getElem h]; rfl
theorem ev_print_l (a : ByteArray) (l : List S34) (hl : ∀ r ∈ l, r.f1.length ≤ 9223372036854775807) : ∀ (d i : Nat) (s : List UInt8), i + d = l.length →
    Ev (fun k => tables_Print.l0 k a l d i s) (if bad a (if i = 0 then none else l[i - 1]?) (l.drop i) = true then ([], 51) else if 2432 < (s ++ textB (l.drop i)).length then ([], 5) else (numsOf (s ++ textB (l.drop i)), 0)) := by
  intro d
  induction d with
  | zero =>
    intro i s hi
    rw [List.drop_eq_nil_of_le (by omega)]
    refine Ev.congr (f := fun _ => some (if 2432 < s.length then ([], 5) else (numsOf s, 0))) (fun k => rfl) ?_
    unfold bad textB
    rw [List.flatMap_nil, List.append_nil, if_neg Bool.false_ne_true]
    exact Ev.now _
  | succ d ih =>
    intro i s hi
    have hlt : i < l.length := by omega
    have hd : l.drop i = l[i] :: l.drop (i + 1) := List.drop_eq_getElem_cons hlt
    have hrd := rd_get hlt
    have hbe : (0 < i ∧ (Op.bytesLess (rd_T34 l i).f0.toList (rd_T34 l ((i : Int) - 1)).f0.toList || (rd_T34 l i).f0.toList == (rd_T34 l ((i : Int) - 1)).f0.toList) = true) ↔ notBehind l[i] (if i = 0 then none else l[i - 1]?) = true := by
      by_cases h0 : i = 0
      · subst h0
        simp [notBehind]
      · rw [if_neg h0, hrd, show ((i : Int) - 1) = ((i - 1 : Nat) : Int) by omega, rd_get (show i - 1 < l.length by omega), List.getElem?_eq_getElem (by omega)]
        exact ⟨fun h => h.2, fun h => ⟨by omega, h⟩⟩
    refine Ev.congr (fun k => rfl) (Ev.bind (g := fun k => tables_Check.f k a (rd_T34 l i).f0 (rd_T34 l i).f1) (by rw [hrd]; exact ev_chk a l[i] (hl _ (List.getElem_mem hlt))) ?_)
    simp only [hbe]
    rw [hd, bad]
    by_cases hc : chk a l[i] ≠ 0
    · rw [decide_eq_true hc, Bool.true_or, Bool.true_or, if_pos rfl]
      exact Ev.congr (f := fun _ => some ([], 51)) (fun k => if_pos hc) (Ev.now _)
    · refine Ev.congr (fun k => if_neg hc) ?_
      rw [decide_eq_false hc, Bool.false_or]
      cases hn : notBehind l[i] (if i = 0 then none else l[i - 1]?) with
      | true => rw [Bool.true_or, if_pos rfl]; exact Ev.congr (f := fun _ => some ([], 51)) (fun k => if_pos rfl) (Ev.now _)
      | false =>
        have hrl := row_len (Decidable.of_not_not hc)
        rw [Bool.false_or, hrd]
        refine Ev.congr (fun k => (if_neg Bool.false_ne_true).trans (if_pos ⟨by omega, by omega⟩)) ?_
        have h := ih (i + 1) (s ++ rowText l[i]) (by omega)
        rw [show (if i + 1 = 0 then none else l[i + 1 - 1]?) = some l[i] by rw [if_neg (by omega), Nat.add_sub_cancel, List.getElem?_eq_getElem hlt]] at h
        have e : s ++ textB (l[i] :: l.drop (i + 1)) = s ++ rowText l[i] ++ textB (l.drop (i + 1)) := by unfold textB; rw [List.flatMap_cons, List.append_assoc]
        rw [e]
        exact h
theorem ev_print (a : ByteArray) (l : List S34) (hl : ∀ r ∈ l, r.f1.length ≤ 9223372036854775807) : Ev (fun k => tables_Print.f k a l) (prn a l) := by
  unfold tables_Print.f prn
  by_cases h0 : widthOf a = 0
  · refine Ev.congr (f := fun _ => some ([], 50)) (fun k => by rw [if_pos h0]) ?_
    rw [if_pos h0]; exact Ev.now _
  by_cases h1 : 32 < l.length
  · refine Ev.congr (f := fun _ => some ([], 5)) (fun k => by rw [if_neg h0, if_pos h1]) ?_
    rw [if_neg h0, if_pos h1]; exact Ev.now _
  rw [if_neg h0, if_neg h1]
  refine Ev.congr (f := fun k => tables_Print.l0 k a l l.length 0 []) (fun k => by rw [if_neg h0, if_neg h1]) ?_
  have h := ev_print_l a l hl l.length 0 [] (by omega)
  rw [if_pos rfl, List.drop_zero, List.nil_append] at h
  exact h
theorem ev_sameRow_l (x y : List ByteArray) (a b : ByteArray) (hx : x.length ≤ 9223372036854775807) (hxy : x.length = y.length) : ∀ (d i : Nat), i + d = x.length → ∃ q : Bool, Ev (fun k => majordomoref05_SameRow.l0 k (i : Int) a x b y) q ∧ (q = true ↔ x.drop i = y.drop i) := by
  intro d
  induction d with
  | zero =>
    intro i hi
    refine ⟨true, Ev.step (f := fun _ => some true) (fun k => ?_) (Ev.now _), ?_⟩
    · simp only [majordomoref05_SameRow.l0]
      rw [if_neg (by omega)]
    · rw [List.drop_eq_nil_of_le (by omega), List.drop_eq_nil_of_le (by omega)]
      simp
  | succ d ih =>
    intro i hi
    have hlt : i < x.length := by omega
    have hlt2 : i < y.length := by omega
    have hw : wrap64 ((i : Int) + 1) = ((i + 1 : Nat) : Int) := by unfold wrap64; omega
    have hrd : rdOf ByteArray.empty x (i : Int) = x[i] := by unfold rdOf; rw [Int.toNat_natCast, List.getD_eq_getElem?_getD, List.getElem?_eq_getElem hlt]; rfl
    have hrd2 : rdOf ByteArray.empty y (i : Int) = y[i] := by unfold rdOf; rw [Int.toNat_natCast, List.getD_eq_getElem?_getD, List.getElem?_eq_getElem hlt2]; rfl
    rw [List.drop_eq_getElem_cons hlt, List.drop_eq_getElem_cons hlt2]
    by_cases he : x[i].toList = y[i].toList
    · obtain ⟨q, h1, h2⟩ := ih (i + 1) (by omega)
      refine ⟨q, Ev.step (fun k => ?_) h1, ?_⟩
      · simp only [majordomoref05_SameRow.l0]
        rw [if_pos (by omega), if_pos (by omega), if_pos (by omega), hrd, hrd2, if_pos he, hw]
      · have he2 : x[i] = y[i] := by
          rw [ByteArray.toList_eq, ByteArray.toList_eq] at he
          exact WideShapes.bytes_inj he
        rw [h2]
        exact ⟨fun h => by rw [he2, h], fun h => (List.cons.inj h).2⟩
    · refine ⟨false, Ev.step (f := fun _ => some false) (fun k => ?_) (Ev.now _), ?_⟩
      · simp only [majordomoref05_SameRow.l0]
        rw [if_pos (by omega), if_pos (by omega), if_pos (by omega), hrd, hrd2, if_neg he]
      · simp only [Bool.false_eq_true, false_iff]
        intro h
        injection h with h1 h2
        exact he (by rw [h1])
theorem ev_sameRow (r s : S34) (hx : r.f1.length ≤ 9223372036854775807) : ∃ q : Bool, Ev (fun k => majordomoref05_SameRow.f k r.f0 r.f1 s.f0 s.f1) q ∧ (q = true ↔ r = s) := by
  obtain ⟨a, x⟩ := r
  obtain ⟨b, y⟩ := s
  simp only at hx ⊢
  by_cases h1 : a.toList = b.toList
  · have he2 : a = b := by
      rw [ByteArray.toList_eq, ByteArray.toList_eq] at h1
      exact WideShapes.bytes_inj h1
    by_cases h2 : x.length = y.length
    · obtain ⟨q, h3, h4⟩ := ev_sameRow_l x y a b hx h2 x.length 0 (by omega)
      refine ⟨q, Ev.congr (fun k => ?_) (Ev.step (g := fun k => majordomoref05_SameRow.j0 k false a x b y) (fun k => ?_) h3), ?_⟩
      · unfold majordomoref05_SameRow.f
        rw [if_pos h1, show ((x.length : Int) != (y.length : Int)) = false by rw [h2]; simp]
      · simp only [majordomoref05_SameRow.j0]
        rfl
      · rw [h4, List.drop_zero, List.drop_zero, he2]
        simp
    · refine ⟨false, Ev.congr (fun k => ?_) (Ev.step (g := fun k => majordomoref05_SameRow.j0 k true a x b y) (f := fun _ => some false) (fun k => ?_) (Ev.now _)), ?_⟩
      · unfold majordomoref05_SameRow.f
        rw [if_pos h1, show ((x.length : Int) != (y.length : Int)) = true by rw [bne_iff_ne]; omega]
      · simp only [majordomoref05_SameRow.j0]
        rfl
      · simp only [Bool.false_eq_true, false_iff]
        intro h
        injection h with h3 h4
        exact h2 (by rw [h4])
  · refine ⟨false, Ev.congr (fun k => ?_) (Ev.step (g := fun k => majordomoref05_SameRow.j0 k true a x b y) (f := fun _ => some false) (fun k => ?_) (Ev.now _)), ?_⟩
    · unfold majordomoref05_SameRow.f
      rw [if_neg h1]
    · simp only [majordomoref05_SameRow.j0]
      rfl
    · simp only [Bool.false_eq_true, false_iff]
      intro h
      injection h with h3 h4
      exact h1 (by rw [h3])
theorem ev_same_l (x y : List S34) (hx : x.length ≤ 9223372036854775807) (hr : ∀ r ∈ x, r.f1.length ≤ 9223372036854775807) (hxy : x.length = y.length) : ∀ (d i : Nat), i + d = x.length → ∃ q : Bool, Ev (fun k => majordomoref05_Same.l0 k x y (i : Int)) q ∧ (q = true ↔ x.drop i = y.drop i) := by
  intro d
  induction d with
  | zero =>
    intro i hi
    refine ⟨true, Ev.step (f := fun _ => some true) (fun k => ?_) (Ev.now _), ?_⟩
    · simp only [majordomoref05_Same.l0]
      rw [if_neg (by omega)]
    · rw [List.drop_eq_nil_of_le (by omega), List.drop_eq_nil_of_le (by omega)]
      simp
  | succ d ih =>
    intro i hi
    have hlt : i < x.length := by omega
    have hlt2 : i < y.length := by omega
    have hw : wrap64 ((i : Int) + 1) = ((i + 1 : Nat) : Int) := by unfold wrap64; omega
    rw [List.drop_eq_getElem_cons hlt, List.drop_eq_getElem_cons hlt2]
    obtain ⟨b, hb, hbe⟩ := ev_sameRow x[i] y[i] (hr _ (List.getElem_mem hlt))
    cases b with
    | true =>
      obtain ⟨q, h1, h2⟩ := ih (i + 1) (by omega)
      refine ⟨q, Ev.step (f := fun k => (majordomoref05_SameRow.f k x[i].f0 x[i].f1 y[i].f0 y[i].f1).bind fun t => if t = true then majordomoref05_Same.l0 k x y ((i + 1 : Nat) : Int) else some false) (fun k => ?_) (Ev.bind hb ?_), ?_⟩
      · simp only [majordomoref05_Same.l0]
        rw [if_pos (by omega), if_pos (by omega), if_pos (by omega), rd_get hlt, rd_get hlt2, hw]
      · exact Ev.congr (fun k => if_pos rfl) h1
      · rw [h2]
        exact ⟨fun h => by rw [hbe.1 rfl, h], fun h => (List.cons.inj h).2⟩
    | false =>
      refine ⟨false, Ev.step (f := fun k => (majordomoref05_SameRow.f k x[i].f0 x[i].f1 y[i].f0 y[i].f1).bind fun t => if t = true then majordomoref05_Same.l0 k x y ((i + 1 : Nat) : Int) else some false) (fun k => ?_) (Ev.bind hb ?_), ?_⟩
      · simp only [majordomoref05_Same.l0]
        rw [if_pos (by omega), if_pos (by omega), if_pos (by omega), rd_get hlt, rd_get hlt2, hw]
      · exact Ev.congr (f := fun _ => some false) (fun k => if_neg Bool.false_ne_true) (Ev.now _)
      · simp only [Bool.false_eq_true, false_iff]
        intro h
        injection h with h3 h4
        have := hbe.2 h3
        cases this
theorem ev_same (x y : List S34) (hx : x.length ≤ 9223372036854775807) (hr : ∀ r ∈ x, r.f1.length ≤ 9223372036854775807) : ∃ q : Bool, Ev (fun k => majordomoref05_Same.f k x y) q ∧ (q = true ↔ x = y) := by
  by_cases h : x.length = y.length
  · obtain ⟨q, h1, h2⟩ := ev_same_l x y hx hr h x.length 0 (by omega)
    refine ⟨q, Ev.congr (fun k => ?_) h1, by rw [h2, List.drop_zero, List.drop_zero]⟩
    unfold majordomoref05_Same.f
    rw [if_pos (by omega)]
    rfl
  · refine ⟨false, Ev.congr (f := fun _ => some false) (fun k => ?_) (Ev.now _), ?_⟩
    · unfold majordomoref05_Same.f
      rw [if_neg (by omega)]
    · simp only [Bool.false_eq_true, false_iff]
      intro he
      exact h (by rw [he])
end Go.Proofs.YtiobdnnijbfdhaaDoor.PT
