/- An argument that is a row of rows of a table (a text and texts), opened to its cells. -/
import Derived.Test.YtiobdnnijbfdhaaDoorRows
import Derived.Test.YtiobdnnijbfdhaaDoorStructs
import Derived.Test.YtiobdnnijbfdhaaDoorStrsArg
import Derived.Test.YtiobdnnijbfdhaaDoorPTx0
import Derived.ChangeSlices
import Derived.ChangeSame
import Derived.WideShapes
import Derived.OpenShut
namespace Go.Proofs.YtiobdnnijbfdhaaDoor.TabArg
open Go.ChangeShapes Go.WideShapes Go.RowKit Go.Proofs.YtiobdnnijbfdhaaDoorW.PrintWords Go.Proofs.YtiobdnnijbfdhaaDoor.PT
theorem one_le {H : Type} (d : DataW H) : 1 ≤ Rows.uptoBulk d := by
  cases d with
  | lit l => cases l <;> simp [Rows.uptoBulk]
  | nil => simp [Rows.uptoBulk]
  | ptr d => simp [Rows.uptoBulk]
  | slice elems spare => simp [Rows.uptoBulk]
  | agg parts => simp [Rows.uptoBulk]
  | iface t d => simp [Rows.uptoBulk]
  | map entries => simp [Rows.uptoBulk]
  | held h => simp [Rows.uptoBulk]
theorem length_le {H : Type} (l : List (DataW H)) : l.length ≤ Rows.uptoBulkAll l := by
  induction l with
  | nil => simp [Rows.uptoBulkAll]
  | cons x r ih => have := one_le x; simp only [Rows.uptoBulkAll, List.length_cons]; omega
theorem part_le {H : Type} {d : DataW H} {l : List (DataW H)} (h : d ∈ l) : Rows.uptoBulk d ≤ Rows.uptoBulkAll l := by
  induction l with
  | nil => cases h
  | cons x r ih =>
    simp only [Rows.uptoBulkAll]
    cases List.mem_cons.1 h with
    | inl e => subst e; omega
    | inr e => have := ih e; omega
theorem rows_of {α : Type} {P : Nat → α → Prop} : ∀ n : Nat, (∀ i, i < n → ∃ x, P i x) → ∃ l : List α, l.length = n ∧ ∀ i x, l[i]? = some x → P i x := by
  intro n
  induction n with
  | zero => intro _; exact ⟨[], rfl, fun i x h => by simp at h⟩
  | succ n ih =>
    intro h
    obtain ⟨l, hl, hp⟩ := ih (fun i hi => h i (by omega))
    obtain ⟨x, hx⟩ := h n (by omega)
    refine ⟨l ++ [x], by rw [List.length_append, hl]; rfl, fun i y hy => ?_⟩
    by_cases hi : i < n
    · rw [List.getElem?_append_left (by omega)] at hy
      exact hp i y hy
    · rw [List.getElem?_append_right (by omega)] at hy
      have hi2 : i = n := by
        have := (List.getElem?_eq_some_iff.1 hy).1
        simp only [List.length_singleton] at this
        omega
      subst hi2
      rw [hl, Nat.sub_self] at hy
      simp only [List.getElem?_cons_zero, Option.some.injEq] at hy
      subst hy
      exact hx
theorem str_open {H : Type} {enc : TypeId × Value → H} {w : World} {fuel : Nat} {c : Value} {y : DataW H × List MemPlace}
    (h : DataW.trod enc Tryd.prog w 0 (fun _ => true) true fuel 9 [c] = some y) : ∃ s, c = .string s := by
  obtain ⟨s, hc, _, _⟩ := DataW.trod_string Tryd.underlying9 h
  simp only [List.cons.injEq, and_true] at hc
  exact ⟨s, hc⟩
theorem slice_of {H : Type} {enc : TypeId × Value → H} {w : World} {fuel : Nat} {c : Value} {y : DataW H × List MemPlace}
    (h : DataW.trod enc Tryd.prog w 0 (fun _ => true) true fuel 32 [c] = some y) : ∃ (A : Option Addr) (l : List ByteArray) (cap : Nat), c = .slice A l.length cap ∧ l.length ≤ cap ∧ Kd.C Kd.string w A l.length l := by
  have hC : Tryd.prog.cellsOf 9 = 1 := by kernel_rfl
  have hc : ∃ A n cap, c = .slice A n cap := by
    rcases open_strings Tryd.underlying32 Tryd.underlying9 hC h with ⟨hcs, _⟩ | ⟨ad, l, c', ss, hcs, _⟩
    · simp only [List.cons.injEq, and_true] at hcs
      exact ⟨_, _, _, hcs⟩
    · simp only [List.cons.injEq, and_true] at hcs
      exact ⟨_, _, _, hcs⟩
  obtain ⟨A, n, cap, rfl⟩ := hc
  obtain ⟨xs, h1, h2, h3, _⟩ := StrsArg.strs_open (d := y.1) (p := y.2) ⟨fuel, h⟩
  subst h1
  exact ⟨A, xs, cap, rfl, h2, h3⟩
theorem rows_open {H : Type} {enc : TypeId × Value → H} {w : World} {fuel : Nat} {c : Value} {y : DataW H × List MemPlace}
    (h : DataW.trod enc Tryd.prog w 0 (fun _ => true) true fuel 22 [c] = some y) :
    ∃ (A : Option Addr) (l : List S34) (cap : Nat), c = .slice A l.length cap ∧ l.length ≤ cap ∧ Kd.C k34 w A l.length l ∧ l.length ≤ Rows.uptoBulk y.1 := by
  rcases open_slice_fields Tryd.underlying22 Tryd.underlying34 (by kernel_rfl) (by kernel_rfl) h with ⟨hcs, hx⟩ | ⟨ad, len, cap, m, D, Pl, hcs, _, hl, hm, hmm, hx, hi⟩
  · simp only [List.cons.injEq, and_true] at hcs
    exact ⟨none, [], 0, hcs, Nat.le_refl _, ⟨rfl, by simp, fun h => by simp at h⟩, Nat.zero_le _⟩
  · simp only [List.cons.injEq, and_true] at hcs
    have hmm : m = cap := by simpa using hmm
    unfold maxLen at hm
    obtain ⟨l, hlen, hp⟩ := rows_of (P := fun i (x : S34) => ∃ A1 c1, w.cell? (ad.add (i * 2)) = some (.string x.f0) ∧ w.cell? (ad.add (i * 2 + 1)) = some (.slice A1 x.f1.length c1) ∧ x.f1.length ≤ c1 ∧ Kd.C Kd.string w A1 x.f1.length x.f1) len (fun i hil => by
      obtain ⟨ys, n, _, _, _, hf⟩ := hi i (by omega)
      obtain ⟨v0, y0, h0, _, t0⟩ := hf 0 _ rfl
      obtain ⟨v1, y1, h1, _, t1⟩ := hf 1 _ rfl
      obtain ⟨s0, rfl⟩ := str_open t0
      obtain ⟨A1, l1, c1, rfl, e1, g1⟩ := slice_of t1
      exact ⟨⟨s0, l1⟩, A1, c1, h0, h1, e1, g1⟩)
    refine ⟨some ad, l, cap, by rw [hlen]; exact hcs, by omega, ⟨rfl, by omega, fun _ => ⟨ad, rfl, fun j p hj => ?_⟩⟩, ?_⟩
    · obtain ⟨A1, c1, h0, h1, e1, g1⟩ := hp j p hj
      refine ⟨[.string p.f0, .slice A1 p.f1.length c1], rfl, k34_mk w p e1 g1, fun i u hu => ?_⟩
      match i, hu with
      | 0, hu => simp only [List.getElem?_cons_zero, Option.some.injEq] at hu; subst hu; exact h0
      | 1, hu => simp only [List.getElem?_cons_succ, List.getElem?_cons_zero, Option.some.injEq] at hu; subst hu; exact h1
    · rw [hx, hlen]
      have h1 := length_le ((List.range len).map D)
      rw [List.length_map, List.length_range] at h1
      exact Nat.le_trans h1 (by simp only [Rows.uptoBulk]; exact Nat.le_trans (Nat.le_add_right _ _) (Nat.le_succ _))
set_option maxRecDepth 100000 in
theorem rows_row {H : Type} {enc : TypeId × Value → H} {w : World} {r : Reach} {base : Nat} {v : Value} {d : DataW H} {p : List MemPlace}
    (hval : Value.okWide Tryd.prog w r base 22 v) (h : DataW.Trod enc Tryd.prog w 0 (fun _ => true) true 22 v d p) :
    ∃ (A : Option Addr) (l : List S34) (c : Nat), v = .slice A l.length c ∧ l.length ≤ c ∧ Kd.C k34 w A l.length l ∧ l.length ≤ Rows.uptoBulk d := by
  obtain ⟨A, n, c, rfl⟩ := okWide_slice Tryd.underlying22 hval
  obtain ⟨fuel, h⟩ := h
  exact rows_open (y := (d, p)) h
/-- Each row's texts are told by a slice. -/
theorem cells_le {w : World} {A : Option Addr} {n : Nat} {l : List S34} (h : Kd.C k34 w A n l) : ∀ r ∈ l, r.f1.length ≤ 9223372036854775807 := by
  intro r hr
  obtain ⟨j, hj, rfl⟩ := List.getElem_of_mem hr
  have hn := h.1
  have hj2 : (j : Int) < (n : Int) := by omega
  obtain ⟨ad, A1, c1, _, _, _, _, hk⟩ := at_T34 h (j : Int) (Int.natCast_nonneg j) hj2
  have := hk.2.1
  unfold rd_T34 at this
  rw [Int.toNat_natCast, List.getD_eq_getElem?_getD, List.getElem?_eq_getElem hj] at this
  exact this
end Go.Proofs.YtiobdnnijbfdhaaDoor.TabArg
