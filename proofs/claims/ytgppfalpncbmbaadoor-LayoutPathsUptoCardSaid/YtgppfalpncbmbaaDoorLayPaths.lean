/- LayoutPaths' and LayoutNames' plain laws. -/
import Derived.Test.YtgppfalpncbmbaaDoorPXx8
import Derived.Test.YtgppfalpncbmbaaDoorPXx11
import Derived.Test.YtgppfalpncbmbaaDoorLayShown
import Derived.Test.YtgppfalpncbmbaaDoorLayEv
namespace Go.Proofs.YtgppfalpncbmbaaDoor.PX
open Go.RowKit Go.Proofs.YtgppfalpncbmbaaDoorW.PrintWords Go.Proofs.YtgppfalpncbmbaaDoorW.PrintLast Go.Proofs.YtgppfalpncbmbaaDoorW.PrintMore
open Lay (nameOk splitL joinL pathF goR letters letter)

theorem rdOf_mk (ps : List (List UInt8)) (i : Nat) (h : i < ps.length) : rdOf ByteArray.empty (ps.map mk) (i : Int) = mk ps[i] := by
  unfold rdOf
  rw [Int.toNat_natCast, List.getD_eq_getElem?_getD, List.getElem?_map, List.getElem?_eq_getElem h]
  rfl
theorem app_mk (a b : List UInt8) : mk a ++ mk b = mk (a ++ b) := by
  apply Go.WideShapes.bytes_inj
  rw [mk_data]
  simp
theorem join_take (ps : List (List UInt8)) (i : Nat) (h : i < ps.length) : joinL (ps.take (i + 1)) = joinL (ps.take i) ++ [47] ++ ps[i] := by
  rw [List.take_add_one, List.getElem?_eq_getElem h, Lay.joinL_append]
  simp [joinL]
theorem names_len {ps : List (List UInt8)} (h : ∀ p ∈ ps, nameOk p = true) : (joinL ps).length ≤ 29 * ps.length := by
  induction ps with
  | nil => simp [joinL]
  | cons p r ih =>
    have h1 := ih (fun x hx => h x (by simp [hx]))
    have h2 : p.length ≤ 28 := by
      have := h p (by simp)
      unfold nameOk at this
      simp only [Bool.and_eq_true, decide_eq_true_eq] at this
      exact this.1.1.1.2
    simp only [joinL, List.length_cons, List.length_append]
    omega
theorem path_len (l : List UInt8) : (pathF l).1.length ≤ 8 := by
  by_cases h : ∃ r, l = 47 :: r
  · obtain ⟨r, rfl⟩ := h
    by_cases hr : r = []
    · subst hr; decide
    · rw [Lay.pathF_stroke r hr]
      split
      · rename_i h; exact h.2.2
      · exact Nat.zero_le _
  · rw [Lay.pathF_no (fun r e => h ⟨r, e⟩)]; exact Nat.zero_le _
theorem path_err (l : List UInt8) : (pathF l).2 = 0 ∨ (pathF l).2 = 40 := by
  by_cases h : ∃ r, l = 47 :: r
  · obtain ⟨r, rfl⟩ := h
    by_cases hr : r = []
    · subst hr; exact .inl rfl
    · rw [Lay.pathF_stroke r hr]
      split
      · exact .inl rfl
      · exact .inr rfl
  · rw [Lay.pathF_no (fun r e => h ⟨r, e⟩)]; exact .inr rfl
theorem ev_paths_l0 (a : ByteArray) : ∀ (d i : Nat), i + d = (pathF a.data.toList).1.length →
    Ev (fun k => majordomolaw03_LayoutPaths.l0 k a ((pathF a.data.toList).1.map mk) (pathF a.data.toList).2 ((pathF a.data.toList).1.map mk) (mk (joinL ((pathF a.data.toList).1.take i))) (i : Int)) true := by
  have h8 := path_len a.data.toList
  have hnm := Lay.pathF_names a.data.toList
  have hjo := @Lay.pathF_join a.data.toList
  generalize pathF a.data.toList = p at h8 hnm hjo
  obtain ⟨ps, e⟩ := p
  simp only at h8 hnm ⊢
  intro d
  induction d with
  | zero =>
    intro i hi
    refine Ev.step (f := fun _ => some true) (fun k => ?_) (Ev.now _)
    simp only [majordomolaw03_LayoutPaths.l0]
    rw [if_neg (by rw [List.length_map]; omega), List.take_of_length_le (by omega), tl, tl, mk_data]
    by_cases he : e = 0
    · rw [if_pos he]
      subst he
      rcases hjo rfl with h | ⟨h1, h2⟩
      · rw [if_pos h]
      · rw [h1, h2]
        rw [if_neg (by decide), if_pos rfl]
        rfl
    · rw [if_neg he]
  | succ d ih =>
    intro i hi
    have hlt : i < ps.length := by omega
    have hn : nameOk ps[i] = true := hnm _ (List.getElem_mem hlt)
    have hj1 : (joinL (ps.take i)).length ≤ 29 * (ps.take i).length := names_len (fun p hp => hnm p (List.mem_of_mem_take hp))
    have hj2 : (ps.take i).length ≤ 8 := by rw [List.length_take]; omega
    have hp : ps[i].length ≤ 28 := by
      unfold nameOk at hn
      simp only [Bool.and_eq_true, decide_eq_true_eq] at hn
      exact hn.1.1.1.2
    have e1 : (mk (joinL (ps.take i)) ++ (⟨#[47]⟩ : ByteArray)) ++ mk ps[i] = mk (joinL (ps.take (i + 1))) := by
      rw [join_take ps i hlt, show (⟨#[47]⟩ : ByteArray) = mk [47] from rfl, app_mk, app_mk]
    have s1 : (mk (joinL (ps.take i))).size = (joinL (ps.take i)).length := by rw [sz, mk_data]
    have s2 : (mk (joinL (ps.take i)) ++ (⟨#[47]⟩ : ByteArray)).size = (joinL (ps.take i)).length + 1 := by
      rw [show (⟨#[47]⟩ : ByteArray) = mk [47] from rfl, app_mk, sz, mk_data, List.length_append]; rfl
    have s3 : (mk ps[i]).size = ps[i].length := by rw [sz, mk_data]
    refine Ev.step (fun k => ?_) (ih (i + 1) (by omega))
    simp only [majordomolaw03_LayoutPaths.l0]
    rw [rdOf_mk ps i hlt, name_f, mk_data, Option.bind_some, hn, e1, s1, s2, s3]
    clear e1 s1 s2 s3 hjo
    rw [if_pos (by rw [List.length_map]; omega), if_pos (by omega), if_pos (by rw [List.length_map]; omega), if_pos trivial, if_pos rfl, if_pos (by omega), if_pos (by omega), ww ((i : Int) + 1) ((i + 1 : Nat) : Int) (by omega) (by omega) (by omega)]
theorem ev_LayoutPaths (a : ByteArray) (hz : a.size ≤ 1048576) : Ev (fun k => majordomolaw03_LayoutPaths.f k a) true := by
  unfold majordomolaw03_LayoutPaths.f
  refine Ev.bind ev_shown (Ev.bind (ev_Path a (by omega)) (Ev.bind (ev_refPath a) ?_))
  rw [name_f]
  simp only [res, if_true, Option.bind_some]
  refine Ev.bind (ev_refName a (by omega)) ?_
  refine Ev.congr (f := fun k => majordomolaw03_LayoutPaths.j0 k a ((pathF a.data.toList).1.map mk) (pathF a.data.toList).2 ((pathF a.data.toList).1.map mk) false) (fun k => ?_) ?_
  · rw [show (nameOk a.data.toList != nameOk a.data.toList) = false by simp]
  · refine Ev.step (fun k => ?_) (ev_paths_l0 a _ 0 (Nat.zero_add _))
    simp only [majordomolaw03_LayoutPaths.j0]
    rw [if_neg (by decide)]
    rfl

/-! ## Names of a row of texts. -/
theorem ev_names_l1 (xs : List ByteArray) (hx : xs.length ≤ 1048576) : ∀ (d i : Nat), i + d = xs.length → Ev (fun k => majordomolaw03_LayoutNames.l1 k xs xs (i : Int)) true := by
  intro d
  induction d with
  | zero =>
    intro i hi
    refine Ev.step (f := fun _ => some true) (fun k => ?_) (Ev.now _)
    simp only [majordomolaw03_LayoutNames.l1]
    rw [if_neg (by omega)]
    simp
  | succ d ih =>
    intro i hi
    refine Ev.step (fun k => ?_) (ih (i + 1) (by omega))
    simp only [majordomolaw03_LayoutNames.l1]
    rw [if_pos (by omega), if_pos (by omega), if_pos (by omega), if_pos trivial, ww ((i : Int) + 1) ((i + 1 : Nat) : Int) (by omega) (by omega) (by omega)]
theorem join_len {M : Nat} {ps : List (List UInt8)} (h : ∀ p ∈ ps, p.length ≤ M) : (joinL ps).length ≤ (M + 1) * ps.length := by
  induction ps with
  | nil => simp [joinL]
  | cons p r ih =>
    have h1 := ih (fun x hx => h x (by simp [hx]))
    have h2 := h p (by simp)
    simp only [joinL, List.length_cons, List.length_append, Nat.mul_add]
    omega
abbrev bs (xs : List ByteArray) : List (List UInt8) := xs.map (fun x => x.data.toList)
theorem mk_bs (xs : List ByteArray) : (bs xs).map mk = xs := by
  rw [List.map_map]
  have : (mk ∘ fun x : ByteArray => x.data.toList) = id := by
    funext x
    exact (of_data x).symm
  rw [this, List.map_id]
theorem cut_len (xs : List ByteArray) (hx : ∀ x ∈ xs, x.size ≤ 1048576) (i : Nat) (hi : i ≤ 12) : (joinL ((bs xs).take i)).length ≤ 12582924 := by
  have h1 : (joinL ((bs xs).take i)).length ≤ (1048576 + 1) * ((bs xs).take i).length := by
    apply join_len
    intro p hp
    obtain ⟨x, hm, rfl⟩ := List.mem_map.1 (List.mem_of_mem_take hp)
    have := hx x hm
    rw [sz] at this
    exact this
  have h2 : ((bs xs).take i).length ≤ 12 := by rw [List.length_take]; omega
  have h3 : (1048576 + 1) * ((bs xs).take i).length ≤ (1048576 + 1) * 12 := Nat.mul_le_mul_left _ h2
  omega
def ok0 (xs : List ByteArray) : Bool := decide (0 < xs.length) && decide (xs.length ≤ 8)
theorem ev_names_j3f (xs : List ByteArray) (s : ByteArray) (hs : s.size ≤ 17592186044415) : Ev (fun k => majordomolaw03_LayoutNames.j3 k xs true s false) true := by
  refine Ev.step (f := fun k => (layout_Path.f k s).bind fun bt235 => majordomolaw03_LayoutNames.j4 k xs false bt235.1 false) (fun k => ?_) (Ev.bind (ev_Path s hs) (Ev.step (f := fun _ => some true) (fun k => ?_) (Ev.now _)))
  · simp only [majordomolaw03_LayoutNames.j3]
    simp only [if_true]
    rfl
  · simp only [majordomolaw03_LayoutNames.j4]
    simp
theorem ev_names_end (xs : List ByteArray) (hl : xs.length ≤ 1048576) (hx : ∀ x ∈ xs, x.size ≤ 1048576) (i : Nat) (hle : i ≤ xs.length) (hc : i = xs.length ∧ i ≤ 12 ∨ i = 12) :
    Ev (fun k => majordomolaw03_LayoutNames.j2 k xs true (mk (joinL ((bs xs).take i))) (ok0 xs && ((bs xs).take i).all nameOk)) true := by
  have hlen := cut_len xs hx i (by omega)
  have hsz : (mk (joinL ((bs xs).take i))).size = (joinL ((bs xs).take i)).length := by rw [sz, mk_data]
  have hf := ev_names_j3f xs (mk (joinL ((bs xs).take i))) (by omega)
  by_cases hok : (ok0 xs && ((bs xs).take i).all nameOk) = true
  · rw [hok]
    simp only [Bool.and_eq_true, ok0, decide_eq_true_eq] at hok
    obtain ⟨⟨h0, h8⟩, hall⟩ := hok
    obtain rfl : i = xs.length := by omega
    rw [List.take_of_length_le (by rw [List.length_map]; omega)] at hall hlen hsz hf ⊢
    by_cases h120 : (joinL (bs xs)).length ≤ 120
    · have hp := Lay.path_of_names (ps := bs xs) (by intro e; rw [List.map_eq_nil_iff] at e; rw [e] at h0; simp at h0) (fun p hp => List.all_eq_true.1 hall p hp) (by rw [List.length_map]; exact h8) h120
      have hP := ev_Path (mk (joinL (bs xs))) (by omega)
      rw [mk_data, hp] at hP
      simp only [res, mk_bs] at hP
      refine Ev.step (f := fun k => majordomolaw03_LayoutNames.j3 k xs true (mk (joinL (bs xs))) true) (fun k => ?_) (Ev.step (f := fun k => (layout_Path.f k (mk (joinL (bs xs)))).bind fun bt235 => majordomolaw03_LayoutNames.j4 k xs true bt235.1 (bt235.2 != 0)) (fun k => ?_) (Ev.bind hP (Ev.step (fun k => ?_) (ev_names_l1 xs hl _ 0 (Nat.zero_add _)))))
      · simp only [majordomolaw03_LayoutNames.j2]
        rw [if_pos trivial, decide_eq_true (by omega)]
      · simp only [majordomolaw03_LayoutNames.j3]
        simp only [if_true]
      · simp only [majordomolaw03_LayoutNames.j4]
        simp
    · refine Ev.step (fun k => ?_) hf
      simp only [majordomolaw03_LayoutNames.j2]
      rw [if_pos trivial, decide_eq_false (by omega)]
  · rw [Bool.eq_false_iff.2 hok]
    refine Ev.step (fun k => ?_) hf
    simp only [majordomolaw03_LayoutNames.j2]
    rw [if_neg (by decide)]
theorem ev_names_l0 (xs : List ByteArray) (hl : xs.length ≤ 1048576) (hx : ∀ x ∈ xs, x.size ≤ 1048576) : ∀ (d i : Nat), i + d = 12 → i ≤ xs.length →
    Ev (fun k => majordomolaw03_LayoutNames.l0 k xs true (mk (joinL ((bs xs).take i))) (ok0 xs && ((bs xs).take i).all nameOk) (i : Int)) true := by
  intro d
  induction d with
  | zero =>
    intro i hi hle
    obtain rfl : i = 12 := by omega
    refine Ev.step (fun k => ?_) (ev_names_end xs hl hx 12 hle (.inr rfl))
    simp only [majordomolaw03_LayoutNames.l0]
    by_cases h : ((12 : Nat) : Int) < (xs.length : Int)
    · rw [if_pos h, if_neg (by omega)]
    · rw [if_neg h]
  | succ d ih =>
    intro i hi hle
    by_cases hlt : i < xs.length
    · have hb : i < (bs xs).length := by rw [List.length_map]; exact hlt
      have hlen := cut_len xs hx i (by omega)
      have hxi := hx _ (List.getElem_mem hlt)
      have hrd : rdOf ByteArray.empty xs (i : Int) = mk (bs xs)[i] := by
        have := rdOf_mk (bs xs) i hb
        rwa [mk_bs] at this
      have e1 : (mk (joinL ((bs xs).take i)) ++ (⟨#[47]⟩ : ByteArray)) ++ mk (bs xs)[i] = mk (joinL ((bs xs).take (i + 1))) := by
        rw [join_take (bs xs) i hb, show (⟨#[47]⟩ : ByteArray) = mk [47] from rfl, app_mk, app_mk]
      have s1 : (mk (joinL ((bs xs).take i))).size = (joinL ((bs xs).take i)).length := by rw [sz, mk_data]
      have s2 : (mk (joinL ((bs xs).take i)) ++ (⟨#[47]⟩ : ByteArray)).size = (joinL ((bs xs).take i)).length + 1 := by
        rw [show (⟨#[47]⟩ : ByteArray) = mk [47] from rfl, app_mk, sz, mk_data, List.length_append]; rfl
      have s3 : (mk (bs xs)[i]).size ≤ 1048576 := by
        rw [sz, mk_data, List.getElem_map, ← sz]; exact hxi
      have hall : ((bs xs).take (i + 1)).all nameOk = (((bs xs).take i).all nameOk && nameOk (bs xs)[i]) := by
        rw [List.take_add_one, List.getElem?_eq_getElem hb, List.all_append]
        simp
      have ih' := ih (i + 1) (by omega) (by omega)
      rw [hall] at ih'
      refine Ev.step (fun k => ?_) ih'
      simp only [majordomolaw03_LayoutNames.l0]
      rw [hrd, name_f, mk_data, Option.bind_some, e1, s1, s2]
      clear e1 s1 s2 hrd
      rw [if_pos (by omega), if_pos (by omega), if_pos (by omega), if_pos (by omega), if_pos (by omega), ww ((i : Int) + 1) ((i + 1 : Nat) : Int) (by omega) (by omega) (by omega)]
      cases hok : (ok0 xs && ((bs xs).take i).all nameOk) with
      | true => rw [if_pos rfl, ← Bool.and_assoc, hok, Bool.true_and]
      | false => rw [if_neg (by decide), ← Bool.and_assoc, hok, Bool.false_and]
    · refine Ev.step (fun k => ?_) (ev_names_end xs hl hx i hle (.inl ⟨by omega, by omega⟩))
      simp only [majordomolaw03_LayoutNames.l0]
      rw [if_neg (by omega)]
theorem ev_LayoutNames (xs : List ByteArray) (hl : xs.length ≤ 1048576) (hx : ∀ x ∈ xs, x.size ≤ 1048576) : Ev (fun k => majordomolaw03_LayoutNames.f k xs) true := by
  have h0 : Ev (fun k => majordomolaw03_LayoutNames.j0 k xs true (⟨#[]⟩ : ByteArray) (ok0 xs)) true := by
    refine Ev.step (fun k => ?_) (ev_names_l0 xs hl hx 12 0 rfl (Nat.zero_le _))
    simp only [majordomolaw03_LayoutNames.j0]
    rw [List.take_zero, List.all_nil, Bool.and_true]
    rfl
  unfold majordomolaw03_LayoutNames.f
  refine Ev.bind ev_shown (Ev.congr (fun k => ?_) h0)
  unfold ok0
  by_cases h : (xs.length : Int) > 0
  · rw [if_pos h, decide_eq_true (show 0 < xs.length by omega), Bool.true_and]
    congr 1
    simp only [decide_eq_decide]
    omega
  · rw [if_neg h, decide_eq_false (show ¬ 0 < xs.length by omega), Bool.false_and]
end Go.Proofs.YtgppfalpncbmbaaDoor.PX
