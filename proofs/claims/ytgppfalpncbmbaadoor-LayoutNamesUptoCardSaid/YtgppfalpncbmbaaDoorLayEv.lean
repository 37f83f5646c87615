/- What the program's Path comes to. -/
import Derived.Test.YtgppfalpncbmbaaDoorLayEvA
namespace Go.Proofs.YtgppfalpncbmbaaDoor.PX
open Go.RowKit Go.Proofs.YtgppfalpncbmbaaDoorW.PrintWords Go.Proofs.YtgppfalpncbmbaaDoorW.PrintLast Go.Proofs.YtgppfalpncbmbaaDoorW.PrintMore
open Lay (nameOk splitL joinL pathF goR letters letter)

/-! ## The program's split. -/
theorem set_take {α : Type} (l : List α) (i : Nat) (x : α) (h : i < l.length) : (l.set i x).take (i + 1) = l.take i ++ [x] := by
  rw [List.take_add_one, List.getElem?_set_self h, List.take_set_of_le (Nat.le_refl i)]
  rfl
theorem size47 : (((⟨#[47]⟩ : ByteArray).size : Nat) : Int) = 1 := rfl
theorem index_f (a : ByteArray) : strings_Index.f a (⟨#[47]⟩ : ByteArray) = some (Lib.indexByte a.data.toList 47) := by
  unfold strings_Index.f stringslite_Index.f stringslite_IndexByte.f
  rw [if_pos (by rfl), show bt (⟨#[47]⟩ : ByteArray) 0 = 47 from by decide]
  simp only [Option.bind_some]
  rfl
set_option maxHeartbeats 1000000 in
theorem ev_split_l0 (m : Nat) (hm : m ≤ 17592186044415) : ∀ (d i : Nat) (a : ByteArray) (done : List (List UInt8)) (buf : List ByteArray), i + d = m → a.size ≤ 17592186044415 → a.data.toList.count 47 = d →
    buf.length = m + 1 → done.length = i → buf.take i = done.map mk →
    Ev (fun k => strings_genSplit.l0 k a (⟨#[47]⟩ : ByteArray) 0 (m : Int) buf (i : Int)) ((done ++ splitL a.data.toList).map mk) := by
  intro d
  induction d with
  | zero =>
    intro i a done buf hi hz hc hbl hdl hbt
    have hnone : splitL a.data.toList = [a.data.toList] := by
      by_cases h : Lib.indexByte a.data.toList 47 < 0
      · exact (Lay.splitL_none _ h).1
      · have := (Lay.splitL_find a.data.toList (Lib.indexByte a.data.toList 47).toNat (by omega)).2.2
        omega
    refine Ev.step (f := fun _ => some ((done ++ splitL a.data.toList).map mk)) (fun k => ?_) (Ev.now _)
    simp only [strings_genSplit.l0]
    have hw : wrap64 ((i : Int) + 1) = ((i + 1 : Nat) : Int) := ww _ _ (by omega) (by omega) (by omega)
    rw [hw]
    clear hw
    rw [if_neg (by omega), if_pos (by omega), if_pos (by omega), if_pos (by omega), if_pos (by omega), Int.toNat_natCast, Int.toNat_natCast, set_take _ _ _ (by omega), hbt, hnone, List.map_append]
    congr 2
  | succ d ih =>
    intro i a done buf hi hz hc hbl hdl hbt
    have hge : ¬ Lib.indexByte a.data.toList 47 < 0 := by
      intro h
      have := (Lay.splitL_none _ h).2
      omega
    obtain ⟨j, hj⟩ : ∃ j : Nat, Lib.indexByte a.data.toList 47 = (j : Int) := ⟨(Lib.indexByte a.data.toList 47).toNat, by omega⟩
    obtain ⟨e1, e2, e3⟩ := Lay.splitL_find _ _ hj
    have hs := sz a
    have ea : (a.extract (j + 1) a.size).data.toList = a.data.toList.drop (j + 1) := by
      rw [Lib.extract_data, List.take_of_length_le (by rw [List.length_drop]; omega)]
    have eb : a.extract 0 j = mk (a.data.toList.take j) := by rw [ext_mk]; rfl
    have ih' := ih (i + 1) (a.extract (j + 1) a.size) (done ++ [a.data.toList.take j]) (buf.set i (mk (a.data.toList.take j))) (by omega) (by rw [sz, ea, List.length_drop]; omega) (by rw [ea]; omega)
      (by rw [List.length_set]; exact hbl) (by rw [List.length_append, hdl]; rfl) (by rw [set_take _ _ _ (by omega), hbt, List.map_append]; rfl)
    rw [ea] at ih'
    rw [e1, show done ++ a.data.toList.take j :: splitL (a.data.toList.drop (j + 1)) = done ++ [a.data.toList.take j] ++ splitL (a.data.toList.drop (j + 1)) by simp]
    have hix : strings_Index.f a (⟨#[47]⟩ : ByteArray) = some (j : Int) := by rw [index_f, hj]
    refine Ev.step (fun k => ?_) ih'
    simp only [strings_genSplit.l0]
    rw [hix, Option.bind_some]
    clear hix hj e1 e3 ea hge hc hbt ih ih'
    rw [size47, ww ((j : Int) + 0) (j : Int) (by omega) (by omega) (by omega), ww ((j : Int) + 1) ((j + 1 : Nat) : Int) (by omega) (by omega) (by omega), ww ((i : Int) + 1) ((i + 1 : Nat) : Int) (by omega) (by omega) (by omega)]
    rw [if_pos (by omega), if_neg (by omega), if_pos (by omega), if_pos (by omega), if_pos (by omega), if_pos (by omega), if_pos (by omega), if_pos (by omega), Int.toNat_natCast, Int.toNat_natCast, Int.toNat_natCast, eb]
theorem ev_Split (a : ByteArray) (hz : a.size ≤ 17592186044415) : Ev (fun k => strings_Split.f k a (⟨#[47]⟩ : ByteArray)) ((splitL a.data.toList).map mk) := by
  have hc : a.data.toList.count 47 ≤ a.size := by rw [sz]; exact List.count_le_length
  have hgo := ev_split_l0 (a.data.toList.count 47) (by omega) (a.data.toList.count 47) 0 a [] (List.replicate (a.data.toList.count 47 + 1) (⟨#[]⟩ : ByteArray)) (by omega) hz rfl (by rw [List.length_replicate]) rfl rfl
  rw [List.nil_append] at hgo
  unfold strings_Split.f
  refine Ev.bind (f := fun _ t => some t) ?_ (Ev.now _)
  unfold strings_genSplit.f
  refine Ev.congr (f := fun k => strings_genSplit.j0 k a (⟨#[47]⟩ : ByteArray) 0 ((a.data.toList.count 47 + 1 : Nat) : Int)) (fun k => ?_) ?_
  · rw [if_neg (by decide), if_neg (by rw [tl]; decide), if_pos (by decide)]
    unfold strings_Count.f
    rw [if_pos (by rfl), show bt (⟨#[47]⟩ : ByteArray) 0 = 47 from by decide]
    simp only [Option.bind_some]
    rw [ww _ ((a.data.toList.count 47 + 1 : Nat) : Int) (by rfl) (by omega) (by omega)]
  · refine Ev.step (fun k => ?_) hgo
    simp only [strings_genSplit.j0]
    have w1 : wrap64 ((a.size : Int) + 1) = ((a.size + 1 : Nat) : Int) := ww _ _ (by omega) (by omega) (by omega)
    rw [w1]
    clear w1
    have hmn : mn ((a.data.toList.count 47 + 1 : Nat) : Int) ((a.size + 1 : Nat) : Int) = ((a.data.toList.count 47 + 1 : Nat) : Int) := by unfold mn; rw [if_neg (by omega)]
    rw [hmn, if_pos (by omega), Int.toNat_natCast, if_pos (by omega), ww (((a.data.toList.count 47 + 1 : Nat) : Int) - 1) ((a.data.toList.count 47 : Nat) : Int) (by omega) (by omega) (by omega)]
    rfl
/-! ## Whether a part is no name. -/
theorem ev_contains (ps : List (List UInt8)) (hz : ps.length ≤ 4611686018427387904) : Ev (fun k => slices_ContainsFunc_string_string.f k (ps.map mk)) (!ps.all nameOk) := by
  have hgo : ∀ (d i : Nat), i + d = ps.length → (ps.take i).all nameOk = true → ∃ r : Int, Ev (fun k => slices_IndexFunc_string_string.l0 k (ps.map mk) ((ps.map mk).length : Int) (i : Int)) r ∧ decide (r ≥ 0) = !ps.all nameOk := by
    intro d
    induction d with
    | zero =>
      intro i hi ha
      rw [List.take_of_length_le (by omega)] at ha
      refine ⟨-1, ?_, by rw [ha]; rfl⟩
      refine Ev.step (f := fun _ => some (-1)) (fun k => ?_) (Ev.now _)
      simp only [slices_IndexFunc_string_string.l0]
      rw [if_neg (by rw [List.length_map]; omega)]
    | succ d ih =>
      intro i hi ha
      have hlt : i < ps.length := by omega
      have hrd : rdOf ByteArray.empty (ps.map mk) (i : Int) = mk ps[i] := by
        unfold rdOf
        rw [Int.toNat_natCast, List.getD_eq_getElem?_getD, List.getElem?_map, List.getElem?_eq_getElem hlt]
        rfl
      have hq : layout_Path_1.f (rdOf ByteArray.empty (ps.map mk) (i : Int)) = some (!nameOk ps[i]) := by
        unfold layout_Path_1.f
        rw [name_f, hrd, mk_data]
        rfl
      by_cases hn : nameOk ps[i] = true
      · obtain ⟨r, h1, h2⟩ := ih (i + 1) (by omega) (by
          rw [List.take_add_one, List.getElem?_eq_getElem hlt, List.all_append, ha]
          simp [hn])
        refine ⟨r, Ev.step (fun k => ?_) h1, h2⟩
        simp only [slices_IndexFunc_string_string.l0]
        rw [hq]
        simp only [Option.bind_some]
        rw [ww ((i : Int) + 1) ((i + 1 : Nat) : Int) (by omega) (by omega) (by omega), if_pos (by rw [List.length_map]; omega), if_pos (by omega), if_pos (by rw [List.length_map]; omega), if_neg (by rw [hn]; decide)]
      · refine ⟨(i : Int), Ev.step (f := fun _ => some (i : Int)) (fun k => ?_) (Ev.now _), ?_⟩
        · simp only [slices_IndexFunc_string_string.l0]
          rw [hq]
          simp only [Option.bind_some]
          rw [if_pos (by rw [List.length_map]; omega), if_pos (by omega), if_pos (by rw [List.length_map]; omega), if_pos (by rw [Bool.not_eq_true'] ; simpa using hn)]
        · have : ps.all nameOk = false := by
            rw [Bool.eq_false_iff]
            intro h
            exact hn (List.all_eq_true.1 h _ (List.getElem_mem hlt))
          rw [this, decide_eq_true (by omega)]
          rfl
  obtain ⟨r, h1, h2⟩ := hgo ps.length 0 (by omega) rfl
  unfold slices_ContainsFunc_string_string.f
  rw [← h2]
  refine Ev.bind (f := fun _ (t : Int) => some (decide (t ≥ 0))) ?_ (Ev.now _)
  exact h1
theorem cut_yes {a : ByteArray} {r : List UInt8} (hl : a.data.toList = 47 :: r) : strings_CutPrefix.f a (⟨#[47]⟩ : ByteArray) = some (mk r, true) := by
  have hs := sz a
  have h1 : (((⟨#[47]⟩ : ByteArray).size : Nat) : Int) = 1 := rfl
  unfold strings_CutPrefix.f stringslite_CutPrefix.f stringslite_HasPrefix.f
  rw [hl] at hs
  simp only [List.length_cons] at hs
  rw [h1, if_pos (by omega), if_pos (by decide), if_pos (by omega)]
  simp only [Option.bind_some]
  rw [tl, tl, Lib.extract_data, hl]
  have e : ((List.take ((1 : Int).toNat - 0) (List.drop 0 (47 :: r))) == (⟨#[47]⟩ : ByteArray).data.toList) = true := by simp
  rw [e]
  simp only [if_true]
  rw [if_pos (by decide), if_pos (by omega)]
  simp only [Option.bind_some]
  congr 2
  apply Go.WideShapes.bytes_inj
  rw [Lib.extract_data, hl, mk_data]
  show List.take (a.size - 1) r = r
  exact List.take_of_length_le (by omega)
theorem cut_no {a : ByteArray} (hl : ∀ r, a.data.toList ≠ 47 :: r) : strings_CutPrefix.f a (⟨#[47]⟩ : ByteArray) = some (a, false) := by
  have hs := sz a
  have h1 : (((⟨#[47]⟩ : ByteArray).size : Nat) : Int) = 1 := rfl
  unfold strings_CutPrefix.f stringslite_CutPrefix.f stringslite_HasPrefix.f
  rw [h1]
  cases he : a.data.toList with
  | nil =>
    rw [he] at hs
    simp only [List.length_nil] at hs
    rw [if_neg (by omega)]
    rfl
  | cons b r =>
    have hx : b ≠ 47 := fun e => hl r (by rw [he, e])
    rw [he] at hs
    simp only [List.length_cons] at hs
    rw [if_pos (by omega), if_pos (by decide), if_pos (by omega)]
    simp only [Option.bind_some]
    rw [tl, tl, Lib.extract_data, he]
    have e : ((List.take ((1 : Int).toNat - 0) (List.drop 0 (b :: r))) == (⟨#[47]⟩ : ByteArray).data.toList) = false := by simpa using hx
    rw [e, if_neg (by decide)]
    rfl
theorem ev_Path (a : ByteArray) (hz : a.size ≤ 17592186044415) : Ev (fun k => layout_Path.f k a) (res (pathF a.data.toList)) := by
  have hs := sz a
  unfold layout_Path.f
  by_cases h0 : a.data.toList = [47]
  · rw [h0]
    refine Ev.congr (fun k => ?_) (Ev.now _)
    rw [tl, if_pos h0]; rfl
  · refine Ev.congr (f := fun k => (strings_CutPrefix.f a (⟨#[47]⟩ : ByteArray)).bind fun bt133 => ((strings_Split.f k bt133.1 (⟨#[47]⟩ : ByteArray)).bind fun t135 => ((slices_ContainsFunc_string_string.f k t135).bind fun t138 => (if bt133.2 = true then (if t138 = true then (some (([] : List ByteArray), 40)) else (if (a.size : Int) > 120 then (some (([] : List ByteArray), 40)) else (if (t135.length : Int) > 8 then (some (([] : List ByteArray), 40)) else (some (t135, 0))))) else (some (([] : List ByteArray), 40)))))) (fun k => ?_) ?_
    · rw [tl, if_neg h0]
    have hn : ∀ l : List UInt8, l.length ≤ 17592186044415 → (splitL l).length ≤ 4611686018427387904 := by
      intro l hl
      have := Lay.splitL_length l
      have h2 : l.count 47 ≤ l.length := List.count_le_length
      omega
    by_cases hx : ∃ r, a.data.toList = 47 :: r
    · obtain ⟨r, hr⟩ := hx
      rw [cut_yes hr, hr, Lay.pathF_stroke r (fun e => h0 (by rw [hr, e]))]
      simp only [Option.bind_some]
      rw [hr] at hs
      simp only [List.length_cons] at hs
      have h1 := ev_Split (mk r) (by rw [sz, mk_data]; omega)
      rw [mk_data] at h1
      refine Ev.bind h1 (Ev.bind (ev_contains (splitL r) (hn r (by omega))) ?_)
      refine Ev.congr (f := fun _ => some (res (if (splitL r).all nameOk = true ∧ r.length + 1 ≤ 120 ∧ (splitL r).length ≤ 8 then (splitL r, 0) else ([], 40)))) (fun k => ?_) (Ev.now _)
      rw [if_pos trivial, List.length_map]
      by_cases c1 : (splitL r).all nameOk = true
      · rw [c1, if_neg (by decide)]
        by_cases c2 : (a.size : Int) > 120
        · rw [if_pos c2, if_neg (by omega)]; rfl
        · rw [if_neg c2]
          by_cases c3 : ((splitL r).length : Int) > 8
          · rw [if_pos c3, if_neg (by omega)]; rfl
          · rw [if_neg c3, if_pos ⟨rfl, by omega, by omega⟩]; rfl
      · rw [show (splitL r).all nameOk = false by simpa using c1, if_pos (by decide), if_neg (by simp)]; rfl
    · rw [cut_no (fun r h => hx ⟨r, h⟩), Lay.pathF_no (fun r h => hx ⟨r, h⟩)]
      simp only [Option.bind_some]
      refine Ev.bind (ev_Split a hz) (Ev.bind (ev_contains (splitL a.data.toList) (hn _ (by omega))) ?_)
      refine Ev.congr (fun k => ?_) (Ev.now _)
      rw [if_neg (by decide)]
      rfl
end Go.Proofs.YtgppfalpncbmbaaDoor.PX
