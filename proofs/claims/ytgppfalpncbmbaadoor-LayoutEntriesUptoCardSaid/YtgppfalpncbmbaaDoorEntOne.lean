/- An argument that is a row of entries, opened to its cells; what the bound on bulk gives of it. -/
import Derived.Test.YtgppfalpncbmbaaDoorNodArg
import Derived.Test.YtgppfalpncbmbaaDoorStructs
import Derived.Test.YtgppfalpncbmbaaDoorPEx0
import Derived.OpenShut
import Derived.Carry
namespace Go.Proofs.YtgppfalpncbmbaaDoor.EntOne
open Go.ChangeShapes Go.WideShapes Go.RowKit Go.Proofs.YtgppfalpncbmbaaDoorW.PrintWords Go.Proofs.YtgppfalpncbmbaaDoor.NodArg Go.Proofs.YtgppfalpncbmbaaDoor.PE

theorem rows_of {α : Type} {P : Nat → α → Prop} : ∀ n : Nat, (∀ i, i < n → ∃ x, P i x) → ∃ l : List α, l.length = n ∧ ∀ i x, l[i]? = some x → P i x := by
  intro n
  induction n with
  | zero => intro _; exact ⟨[], rfl, fun i x h => by simp at h⟩
  | succ n ih =>
    intro h
    obtain ⟨l, hl, hp⟩ := ih (fun i hi => h i (by omega))
    obtain ⟨x, hx⟩ := h n (by omega)
    refine ⟨l ++ [x], by rw [List.length_append, hl]; rfl, fun i y hy => ?_⟩
    by_cases hi : i < n
    · rw [List.getElem?_append_left (by omega)] at hy
      exact hp i y hy
    · rw [List.getElem?_append_right (by omega)] at hy
      have hi2 : i = n := by
        have := (List.getElem?_eq_some_iff.1 hy).1
        simp only [List.length_singleton] at this
        omega
      subst hi2
      rw [hl, Nat.sub_self] at hy
      simp only [List.getElem?_cons_zero, Option.some.injEq] at hy
      subst hy
      exact hx
theorem bulk_mem {H : Type} : ∀ {l : List (DataW H)} {d : DataW H}, d ∈ l → Rows.uptoBulk d ≤ Rows.uptoBulkAll l
  | x :: l, d, h => by
    simp only [Rows.uptoBulkAll]
    rcases List.mem_cons.1 h with rfl | h
    · omega
    · have := bulk_mem h
      omega
theorem str_open {H : Type} {enc : TypeId × Value → H} {w : World} {fuel : Nat} {c : Value} {y : DataW H × List MemPlace}
    (h : DataW.trod enc Tryd.prog w 0 (fun _ => true) true fuel 9 [c] = some y) : ∃ s, c = .string s ∧ y.1 = .lit (.string s.data.toList) := by
  obtain ⟨s, hc, hy, _⟩ := DataW.trod_string Tryd.underlying9 h
  simp only [List.cons.injEq, and_true] at hc
  exact ⟨s, hc, by rw [hy]⟩
theorem ents_open {H : Type} {enc : TypeId × Value → H} {w : World} {fuel : Nat} {c : Value} {y : DataW H × List MemPlace}
    (h : DataW.trod enc Tryd.prog w 0 (fun _ => true) true fuel 38 [c] = some y) :
    ∃ (A : Option Addr) (l : List S47) (cap : Nat), c = .slice A l.length cap ∧ l.length ≤ cap ∧ Kd.C k47 w A l.length l ∧ l.length ≤ Rows.uptoBulk y.1 ∧ ∀ x ∈ l, x.f1.size ≤ Rows.uptoBulk y.1 := by
  rcases open_slice_fields Tryd.underlying38 Tryd.underlying47 (by kernel_rfl) (by kernel_rfl) h with ⟨hcs, hx⟩ | ⟨ad, len, cap, m, D, Pl, hcs, _, hl, hm, hmm, hx, hi⟩
  · simp only [List.cons.injEq, and_true] at hcs
    exact ⟨none, [], 0, hcs, Nat.le_refl _, ⟨rfl, by simp, fun h => by simp at h⟩, Nat.zero_le _, fun x hx => by cases hx⟩
  · simp only [List.cons.injEq, and_true] at hcs
    have hmm : m = cap := by simpa using hmm
    unfold maxLen at hm
    obtain ⟨l, hlen, hp⟩ := rows_of (P := fun i (x : S47) => w.cell? (ad.add (i * 2)) = some (.int .i64 x.f0) ∧ w.cell? (ad.add (i * 2 + 1)) = some (.string x.f1) ∧ x.f1.size ≤ Rows.uptoBulk (D i)) len (fun i hil => by
      obtain ⟨ys, n, hD, _, _, hf⟩ := hi i (by omega)
      obtain ⟨v0, y0, h0, _, t0⟩ := hf 0 _ rfl
      obtain ⟨v1, y1, h1, g1, t1⟩ := hf 1 _ rfl
      obtain ⟨n0, rfl⟩ := int_open t0
      obtain ⟨s1, rfl, hy1⟩ := str_open t1
      refine ⟨⟨n0, s1⟩, h0, h1, ?_⟩
      rw [hD]
      have hm : y1.1 ∈ ys.map (·.1) := List.mem_map.2 ⟨y1, List.mem_of_getElem? g1, rfl⟩
      have h2 := bulk_mem hm
      rw [hy1] at h2
      have h3 := data_length s1
      simp only [Rows.uptoBulk] at h2 ⊢
      omega)
    refine ⟨some ad, l, cap, by rw [hlen]; exact hcs, by omega, ⟨rfl, by omega, fun _ => ⟨ad, rfl, fun j p hj => ⟨[.int .i64 p.f0, .string p.f1], rfl, k47_mk w p, fun i u hu => ?_⟩⟩⟩, ?_, fun x hxm => ?_⟩
    · obtain ⟨h0, h1, _⟩ := hp j p hj
      match i, hu with
      | 0, hu => simp only [List.getElem?_cons_zero, Option.some.injEq] at hu; subst hu; exact h0
      | 1, hu => simp only [List.getElem?_cons_succ, List.getElem?_cons_zero, Option.some.injEq] at hu; subst hu; exact h1
    · rw [hx, hlen]
      have h1 := length_le ((List.range len).map D)
      rw [List.length_map, List.length_range] at h1
      exact Nat.le_trans h1 (by simp only [Rows.uptoBulk]; exact Nat.le_trans (Nat.le_add_right _ _) (Nat.le_succ _))
    · obtain ⟨i, hi2, rfl⟩ := List.getElem_of_mem hxm
      have h1 := (hp i _ (List.getElem?_eq_getElem hi2)).2.2
      refine Nat.le_trans h1 ?_
      have h2 := bulk_mem (List.mem_map.2 ⟨i, List.mem_range.2 (by omega), rfl⟩ : D i ∈ (List.range len).map D)
      rw [hx]
      simp only [Rows.uptoBulk]
      omega
set_option maxRecDepth 100000 in
theorem one_open {H : Type} {enc : TypeId × Value → H} {w : World} {r : Reach} {base : Nat} {v : Value} {d : DataW H} {p : List MemPlace}
    (hval : Value.okWide Tryd.prog w r base 38 v) (h : DataW.Trod enc Tryd.prog w 0 (fun _ => true) true 38 v d p) :
    ∃ (A : Option Addr) (l : List S47) (c : Nat), v = .slice A l.length c ∧ l.length ≤ c ∧ Kd.C k47 w A l.length l ∧ l.length ≤ Rows.uptoBulk d ∧ ∀ x ∈ l, x.f1.size ≤ Rows.uptoBulk d := by
  obtain ⟨a, len, cap, rfl⟩ := okWide_slice Tryd.underlying38 hval
  obtain ⟨fuel, h⟩ := h
  obtain ⟨A, l, c, h1, h2, h3, h4, h5⟩ := ents_open (show DataW.trod enc Tryd.prog w 0 (fun _ => true) true fuel 38 [.slice a len cap] = some (d, p) from h)
  exact ⟨A, l, c, h1, h2, h3, h4, h5⟩
end Go.Proofs.YtgppfalpncbmbaaDoor.EntOne
