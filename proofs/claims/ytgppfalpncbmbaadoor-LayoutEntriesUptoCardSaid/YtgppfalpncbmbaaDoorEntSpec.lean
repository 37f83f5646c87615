/- LayoutEntries' plain law: names, entries and their bytes. -/
import Derived.Test.YtgppfalpncbmbaaDoorPEx9
import Derived.Test.YtgppfalpncbmbaaDoorPEx5
import Derived.Test.YtgppfalpncbmbaaDoorLaySpec
import Derived.WideShapes
namespace Go.Proofs.YtgppfalpncbmbaaDoor.PE
open Go.RowKit Go.Proofs.YtgppfalpncbmbaaDoorW.PrintWords Go.Proofs.YtgppfalpncbmbaaDoorW.PrintLast Go.Proofs.YtgppfalpncbmbaaDoorW.PrintMore
open Lay (nameOk letters letter)

theorem ev_shown : Ev (fun k => majordomolaw03_shown.f k) true := by
  refine Ev.of (majordomolaw03_shown.mono) (k := 60) ?_
  decide +kernel
theorem wv (x y : Int) (h : x = y) (h0 : 0 ≤ y) (h1 : y < 9223372036854775808) : wrap64 x = y := by subst h; unfold wrap64; omega
theorem name_f (a : ByteArray) : layout_Name.f a = some (nameOk a.data.toList) := by
  unfold layout_Name.f nameOk
  rw [tl, sz]
  by_cases h0 : a.data.toList = []
  · rw [if_pos h0, h0]; rfl
  · rw [if_neg h0]
    have e0 : a.data.toList.isEmpty = false := by simpa using h0
    rw [e0]
    by_cases h1 : ((a.data.toList.length : Nat) : Int) ≤ 28
    · rw [if_pos h1, decide_eq_true (show a.data.toList.length ≤ 28 by omega)]
      by_cases h2 : a.data.toList = [46]
      · rw [if_pos h2, h2]; rfl
      · rw [if_neg h2]
        by_cases h3 : a.data.toList = [46, 46]
        · rw [if_pos h3, h3]; rfl
        · rw [if_neg h3]
          unfold strings_Trim.f
          rw [if_pos ⟨by rw [sz]; omega, by decide, by decide⟩]
          simp only [Option.bind_some]
          rw [show (a.data.toList != [46]) = true by simpa using h2, show (a.data.toList != [46, 46]) = true by simpa using h3, tl]
          rw [show ([65, 66, 67, 68, 69, 70, 71, 72, 73, 74, 75, 76, 77, 78, 79, 80, 81, 82, 83, 84, 85, 86, 87, 88, 89, 90, 97, 98, 99, 100, 101, 102, 103, 104, 105, 106, 107, 108, 109, 110, 111, 112, 113, 114, 115, 116, 117, 118, 119, 120, 121, 122, 48, 49, 50, 51, 52, 53, 54, 55, 56, 57, 46, 95, 45] : List UInt8) = letters from rfl]
          have h4 := Lay.trim_nil a.data.toList
          simp only [Bool.not_false, Bool.true_and, Option.some.injEq]
          cases hl : a.data.toList.all letter with
          | true => rw [h4.2 hl]; rfl
          | false =>
            rw [hl] at h4
            have h5 : Lib.trimS a.data.toList letters ≠ [] := fun e => by have := h4.1 e; cases this
            simpa using h5
    · rw [if_neg h1, decide_eq_false (show ¬ a.data.toList.length ≤ 28 by omega)]; rfl

/-! ## Bytes as a text. -/
def Byt (l : List Int) : Prop := ∀ x ∈ l, 0 ≤ x ∧ x < 256
theorem byt_append {a b : List Int} (ha : Byt a) (hb : Byt b) : Byt (a ++ b) := fun x hx => (List.mem_append.1 hx).elim (ha x) (hb x)
theorem byt_zeros (n : Nat) : Byt (List.replicate n 0) := fun x hx => by rw [List.eq_of_mem_replicate hx]; omega
theorem str_inj : ∀ {a b : List Int}, Byt a → Byt b → (strOfNums a).toList = (strOfNums b).toList → a = b := by
  have key : ∀ (a b : List Int), Byt a → Byt b → a.map (fun z => UInt8.ofNat z.toNat) = b.map (fun z => UInt8.ofNat z.toNat) → a = b := by
    intro a
    induction a with
    | nil => intro b _ _ h; cases b with
      | nil => rfl
      | cons y b => simp at h
    | cons x a ih =>
      intro b ha hb h
      cases b with
      | nil => simp at h
      | cons y b =>
        simp only [List.map_cons, List.cons.injEq] at h
        have hx := ha x (by simp)
        have hy := hb y (by simp)
        have h1 : x = y := by
          have h2 := congrArg UInt8.toNat h.1
          simp only [UInt8.toNat_ofNat'] at h2
          omega
        rw [h1, ih b (fun z hz => ha z (by simp [hz])) (fun z hz => hb z (by simp [hz])) h.2]
  intro a b ha hb h
  rw [Lib.toList_data, Lib.toList_data] at h
  rw [strOfNums_data, strOfNums_data] at h
  exact key a b ha hb h
theorem str_eq {a b : List Int} (ha : Byt a) (hb : Byt b) : ((strOfNums a).toList == (strOfNums b).toList) = decide (a = b) := by
  by_cases h : a = b
  · rw [h, decide_eq_true rfl]; exact beq_self_eq_true _
  · rw [decide_eq_false h]
    have : (strOfNums a).toList ≠ (strOfNums b).toList := fun e => h (str_inj ha hb e)
    simpa using this
/-! ## Entries. -/
def eqS (x y : S47) : Bool := x.f0 == y.f0 && (x.f1.toList == y.f1.toList)
theorem eqS_iff {x y : S47} : eqS x y = true ↔ x = y := by
  unfold eqS
  rw [Bool.and_eq_true, beq_iff_eq, beq_iff_eq]
  constructor
  · rintro ⟨h1, h2⟩
    have h3 : x.f1 = y.f1 := by
      apply Go.WideShapes.bytes_inj
      rw [Lib.toList_data, Lib.toList_data] at h2
      exact h2
    cases x; cases y
    simp only at h1 h3
    rw [h1, h3]
  · rintro rfl
    exact ⟨rfl, rfl⟩
theorem byt_bytesOf (s : ByteArray) : Byt (bytesOf s) := by
  intro x hx
  unfold bytesOf at hx
  obtain ⟨b, _, rfl⟩ := List.mem_map.1 hx
  have := b.toNat_lt
  omega
theorem byt_ent (x : S47) : Byt (entB x) := by
  unfold entB
  refine byt_append (byt_append ?_ (byt_bytesOf _)) (byt_zeros _)
  intro v hv
  simp only [List.mem_cons, List.not_mem_nil, or_false] at hv
  rcases hv with rfl | rfl <;> omega
theorem byt_ents (l : List S47) : Byt (l.flatMap entB) := by
  intro x hx
  obtain ⟨e, _, hv⟩ := List.mem_flatMap.1 hx
  exact byt_ent e x hv
theorem bytesOf_inj {a b : ByteArray} (h : bytesOf a = bytesOf b) : a = b := by
  apply Go.WideShapes.bytes_inj
  unfold bytesOf at h
  have key : ∀ (x y : List UInt8), x.map (fun b => (b.toNat : Int)) = y.map (fun b => (b.toNat : Int)) → x = y := by
    intro x
    induction x with
    | nil => intro y h; cases y with
      | nil => rfl
      | cons _ _ => simp at h
    | cons u x ih =>
      intro y h
      cases y with
      | nil => simp at h
      | cons v y =>
        simp only [List.map_cons, List.cons.injEq] at h
        rw [ih y h.2, show u = v from UInt8.toNat_inj.1 (by omega)]
  exact key _ _ h
def Good (x : S47) : Prop := x.f1.size ≤ 28 ∧ 1 ≤ x.f0 ∧ x.f0 < 64
theorem ent_inj {x y : S47} (hx : Good x) (hy : Good y) (h : entB x = entB y) : x = y := by
  obtain ⟨h1, h2, h3⟩ := hx
  obtain ⟨h4, h5, h6⟩ := hy
  unfold entB at h
  simp only [List.cons_append, List.nil_append, List.cons.injEq] at h
  obtain ⟨e1, e2, e3⟩ := h
  have es : x.f1.size = y.f1.size := by omega
  obtain ⟨e4, -⟩ := List.append_inj e3 (by rw [bytesOf_length, bytesOf_length, es])
  have e5 := bytesOf_inj e4
  have e6 : x.f0 = y.f0 := by omega
  cases x; cases y
  simp only at e5 e6
  rw [e5, e6]
theorem ents_inj : ∀ {a b : List S47}, (∀ x ∈ a, Good x) → (∀ x ∈ b, Good x) → a.flatMap entB = b.flatMap entB → a = b := by
  intro a
  induction a with
  | nil =>
    intro b _ hb h
    cases b with
    | nil => rfl
    | cons y b =>
      have := congrArg List.length h
      rw [List.flatMap_cons, List.length_append, entB_len (by have := (hb y (by simp)).1; omega)] at this
      simp at this
      try omega
  | cons x a ih =>
    intro b ha hb h
    have hx := ha x (by simp)
    cases b with
    | nil =>
      have := congrArg List.length h
      rw [List.flatMap_cons, List.length_append, entB_len (by have := hx.1; omega)] at this
      simp at this
      try omega
    | cons y b =>
      have hy := hb y (by simp)
      rw [List.flatMap_cons, List.flatMap_cons] at h
      obtain ⟨h1, h2⟩ := List.append_inj h (by rw [entB_len (by have := hx.1; omega), entB_len (by have := hy.1; omega)])
      rw [ent_inj hx hy h1, ih (fun z hz => ha z (by simp [hz])) (fun z hz => hb z (by simp [hz])) h2]
theorem good_of {l : List S47} (h : (List.range l.length).all (entOk l) = true) : ∀ x ∈ l, Good x := by
  intro x hx
  obtain ⟨j, hj, rfl⟩ := List.getElem_of_mem hx
  have := List.all_eq_true.1 h j (by rw [List.mem_range]; exact hj)
  have h2 := ok_name this
  rw [rd_get47 hj] at h2
  exact h2
/-- What PutEntries answers. -/
theorem put_ents (l : List S47) : ∃ p g, layout_PutEntries.f l = some (p, g) ∧ (g = 0 → p = l.flatMap entB ∧ (∀ x ∈ l, Good x) ∧ l.length ≤ 16) := by
  unfold layout_PutEntries.f
  by_cases h1 : l.length > 16
  · rw [if_pos h1]; exact ⟨_, _, rfl, fun h => by cases h⟩
  · rw [if_neg h1]
    by_cases h2 : (List.range l.length).all (entOk l) = true
    · rw [if_pos h2]; exact ⟨_, _, rfl, fun _ => ⟨rfl, good_of h2, by omega⟩⟩
    · rw [if_neg h2]; exact ⟨_, _, rfl, fun h => by cases h⟩
end Go.Proofs.YtgppfalpncbmbaaDoor.PE
