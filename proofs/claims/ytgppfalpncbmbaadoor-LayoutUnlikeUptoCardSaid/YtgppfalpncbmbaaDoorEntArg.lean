/- An argument that is two rows of entries, opened to its cells; what the bound on bulk gives of it. -/
import Derived.Test.YtgppfalpncbmbaaDoorNodArg
import Derived.Test.YtgppfalpncbmbaaDoorStructs
import Derived.Test.YtgppfalpncbmbaaDoorPUx0
import Derived.OpenShut
namespace Go.Proofs.YtgppfalpncbmbaaDoor.EntArg
open Go.ChangeShapes Go.WideShapes Go.RowKit Go.Proofs.YtgppfalpncbmbaaDoorW.PrintWords Go.Proofs.YtgppfalpncbmbaaDoor.NodArg Go.Proofs.YtgppfalpncbmbaaDoor.PU

theorem rows_of {α : Type} {P : Nat → α → Prop} : ∀ n : Nat, (∀ i, i < n → ∃ x, P i x) → ∃ l : List α, l.length = n ∧ ∀ i x, l[i]? = some x → P i x := by
  intro n
  induction n with
  | zero => intro _; exact ⟨[], rfl, fun i x h => by simp at h⟩
  | succ n ih =>
    intro h
    obtain ⟨l, hl, hp⟩ := ih (fun i hi => h i (by omega))
    obtain ⟨x, hx⟩ := h n (by omega)
    refine ⟨l ++ [x], by rw [List.length_append, hl]; rfl, fun i y hy => ?_⟩
    by_cases hi : i < n
    · rw [List.getElem?_append_left (by omega)] at hy
      exact hp i y hy
    · rw [List.getElem?_append_right (by omega)] at hy
      have hi2 : i = n := by
        have := (List.getElem?_eq_some_iff.1 hy).1
        simp only [List.length_singleton] at this
        omega
      subst hi2
      rw [hl, Nat.sub_self] at hy
      simp only [List.getElem?_cons_zero, Option.some.injEq] at hy
      subst hy
      exact hx
theorem str_open {H : Type} {enc : TypeId × Value → H} {w : World} {fuel : Nat} {c : Value} {y : DataW H × List MemPlace}
    (h : DataW.trod enc Tryd.prog w 0 (fun _ => true) true fuel 9 [c] = some y) : ∃ s, c = .string s := by
  obtain ⟨s, hc, _, _⟩ := DataW.trod_string Tryd.underlying9 h
  simp only [List.cons.injEq, and_true] at hc
  exact ⟨s, hc⟩
theorem ents_open {H : Type} {enc : TypeId × Value → H} {w : World} {fuel : Nat} {c : Value} {y : DataW H × List MemPlace}
    (h : DataW.trod enc Tryd.prog w 0 (fun _ => true) true fuel 38 [c] = some y) :
    ∃ (A : Option Addr) (l : List S47) (cap : Nat), c = .slice A l.length cap ∧ l.length ≤ cap ∧ Kd.C k47 w A l.length l ∧ l.length ≤ Rows.uptoBulk y.1 := by
  rcases open_slice_fields Tryd.underlying38 Tryd.underlying47 (by kernel_rfl) (by kernel_rfl) h with ⟨hcs, hx⟩ | ⟨ad, len, cap, m, D, Pl, hcs, _, hl, hm, hmm, hx, hi⟩
  · simp only [List.cons.injEq, and_true] at hcs
    exact ⟨none, [], 0, hcs, Nat.le_refl _, ⟨rfl, by simp, fun h => by simp at h⟩, Nat.zero_le _⟩
  · simp only [List.cons.injEq, and_true] at hcs
    have hmm : m = cap := by simpa using hmm
    unfold maxLen at hm
    obtain ⟨l, hlen, hp⟩ := rows_of (P := fun i (x : S47) => w.cell? (ad.add (i * 2)) = some (.int .i64 x.f0) ∧ w.cell? (ad.add (i * 2 + 1)) = some (.string x.f1)) len (fun i hil => by
      obtain ⟨ys, n, _, _, _, hf⟩ := hi i (by omega)
      obtain ⟨v0, y0, h0, _, t0⟩ := hf 0 _ rfl
      obtain ⟨v1, y1, h1, _, t1⟩ := hf 1 _ rfl
      obtain ⟨n0, rfl⟩ := int_open t0
      obtain ⟨s1, rfl⟩ := str_open t1
      exact ⟨⟨n0, s1⟩, h0, h1⟩)
    refine ⟨some ad, l, cap, by rw [hlen]; exact hcs, by omega, ⟨rfl, by omega, fun _ => ⟨ad, rfl, fun j p hj => ⟨[.int .i64 p.f0, .string p.f1], rfl, k47_mk w p, fun i u hu => ?_⟩⟩⟩, ?_⟩
    · obtain ⟨h0, h1⟩ := hp j p hj
      match i, hu with
      | 0, hu => simp only [List.getElem?_cons_zero, Option.some.injEq] at hu; subst hu; exact h0
      | 1, hu => simp only [List.getElem?_cons_succ, List.getElem?_cons_zero, Option.some.injEq] at hu; subst hu; exact h1
    · rw [hx, hlen]
      have h1 := length_le ((List.range len).map D)
      rw [List.length_map, List.length_range] at h1
      exact Nat.le_trans h1 (by simp only [Rows.uptoBulk]; exact Nat.le_trans (Nat.le_add_right _ _) (Nat.le_succ _))
set_option maxRecDepth 10000 in
theorem two_open {H : Type} {enc : TypeId × Value → H} {w : World} {r : Reach} {base : Nat} {v : Value} {d : DataW H} {p : List MemPlace}
    (hval : Value.okWide Tryd.prog w r base 39 v) (h : DataW.Trod enc Tryd.prog w 0 (fun _ => true) true 39 v d p) :
    ∃ (A : Option Addr) (l : List S47) (c : Nat) (A' : Option Addr) (l' : List S47) (c' : Nat), v = .agg #[.slice A l.length c, .slice A' l'.length c'] ∧ l.length ≤ c ∧ Kd.C k47 w A l.length l ∧ l'.length ≤ c' ∧ Kd.C k47 w A' l'.length l' ∧ l.length ≤ Rows.uptoBulk d ∧ l'.length ≤ Rows.uptoBulk d := by
  have hS : Tryd.prog.cellsOf 38 = 1 := by kernel_rfl
  have hN : Tryd.prog.cellsOf 39 = 2 := by kernel_rfl
  have hv : ∃ cs : Array Value, v = .agg cs ∧ cs.size = 2 := by
    simp only [Value.okWide, Tryd.underlying39] at hval
    obtain ⟨cs, h1, h2, _⟩ := hval
    exact ⟨cs, h1, by rw [h2, hN]⟩
  obtain ⟨cs, rfl, hsz⟩ := hv
  obtain ⟨c0, c1, rfl⟩ : ∃ c0 c1, cs = #[c0, c1] := by
    obtain ⟨l⟩ := cs
    match l, hsz with
    | [c0, c1], _ => exact ⟨c0, c1, rfl⟩
  obtain ⟨fuel, h⟩ := h
  obtain ⟨xs, n, _, hx, hl, hlen, hf⟩ := DataW.trod_array Tryd.underlying39 h
  have f0 := hf 0 (by omega)
  have f1 := hf 1 (by omega)
  obtain ⟨y0, y1, rfl⟩ : ∃ y0 y1, xs = [y0, y1] := by
    match xs, hlen with
    | [y0, y1], _ => exact ⟨y0, y1, rfl⟩
  rw [hS] at f0 f1
  simp only [Value.cells, Nat.zero_mul, Nat.one_mul, List.drop_zero, List.drop_succ_cons, List.take_succ_cons, List.take_zero, List.getElem?_cons_zero, List.getElem?_cons_succ] at f0 f1
  obtain ⟨A, l, c, rfl, h1, h2, h3⟩ := ents_open f0
  obtain ⟨A', l', c', rfl, h4, h5, h6⟩ := ents_open f1
  have hd : d = .agg ([y0, y1].map (·.1)) := congrArg Prod.fst hx
  refine ⟨A, l, c, A', l', c', rfl, h1, h2, h4, h5, Nat.le_trans h3 ?_, Nat.le_trans h6 ?_⟩
  · rw [hd]
    exact Nat.le_trans (part_le (show y0.1 ∈ [y0, y1].map (·.1) by simp)) (by simp only [Rows.uptoBulk]; exact Nat.le_succ _)
  · rw [hd]
    exact Nat.le_trans (part_le (show y1.1 ∈ [y0, y1].map (·.1) by simp)) (by simp only [Rows.uptoBulk]; exact Nat.le_succ _)
end Go.Proofs.YtgppfalpncbmbaaDoor.EntArg
