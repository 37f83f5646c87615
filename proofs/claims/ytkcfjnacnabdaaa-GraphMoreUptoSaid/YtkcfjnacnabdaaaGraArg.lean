/- An argument that is a row of edges, opened to its cells; what the bound on bulk gives of it. -/
import Derived.Test.YtkcfjnacnabdaaaRows
import Derived.Test.YtkcfjnacnabdaaaStructs
import Derived.Test.YtkcfjnacnabdaaaPGx0
import Derived.OpenShut
import Derived.Carry
import Derived.ChangeArms
namespace Go.Proofs.Ytkcfjnacnabdaaa.GraArg
open Go.ChangeShapes Go.WideShapes Go.RowKit Go.Proofs.YtkcfjnacnabdaaaW.PrintWords Go.Proofs.Ytkcfjnacnabdaaa.PG

theorem laidOut : laidOutB Try.prog = true := by kernel_rfl
theorem own : ownKnob Try.prog.godebug = none := by kernel_rfl
theorem one_le {H : Type} (d : DataW H) : 1 ≤ Rows.uptoBulk d := by
  cases d with
  | lit l => cases l <;> simp [Rows.uptoBulk]
  | nil => simp [Rows.uptoBulk]
  | ptr d => simp [Rows.uptoBulk]
  | slice elems spare => simp [Rows.uptoBulk]
  | agg parts => simp [Rows.uptoBulk]
  | iface t d => simp [Rows.uptoBulk]
  | map entries => simp [Rows.uptoBulk]
  | held h => simp [Rows.uptoBulk]
theorem length_le {H : Type} (l : List (DataW H)) : l.length ≤ Rows.uptoBulkAll l := by
  induction l with
  | nil => simp [Rows.uptoBulkAll]
  | cons x r ih => have := one_le x; simp only [Rows.uptoBulkAll, List.length_cons]; omega
theorem rows_of {α : Type} {P : Nat → α → Prop} : ∀ n : Nat, (∀ i, i < n → ∃ x, P i x) → ∃ l : List α, l.length = n ∧ ∀ i x, l[i]? = some x → P i x := by
  intro n
  induction n with
  | zero => intro _; exact ⟨[], rfl, fun i x h => by simp at h⟩
  | succ n ih =>
    intro h
    obtain ⟨l, hl, hp⟩ := ih (fun i hi => h i (by omega))
    obtain ⟨x, hx⟩ := h n (by omega)
    refine ⟨l ++ [x], by rw [List.length_append, hl]; rfl, fun i y hy => ?_⟩
    by_cases hi : i < n
    · rw [List.getElem?_append_left (by omega)] at hy
      exact hp i y hy
    · rw [List.getElem?_append_right (by omega)] at hy
      have hi2 : i = n := by
        have := (List.getElem?_eq_some_iff.1 hy).1
        simp only [List.length_singleton] at this
        omega
      subst hi2
      rw [hl, Nat.sub_self] at hy
      simp only [List.getElem?_cons_zero, Option.some.injEq] at hy
      subst hy
      exact hx
theorem edges_of {H : Type} {enc : TypeId × Value → H} {w : World} {fuel : Nat} {c : Value} {y : DataW H × List MemPlace}
    (h : DataW.trod enc Try.prog w 0 (fun _ => true) true fuel 22 [c] = some y) :
    ∃ (A : Option Addr) (l : List S32) (cap : Nat), c = .slice A l.length cap ∧ l.length ≤ cap ∧ Kd.C k32 w A l.length l ∧ l.length ≤ 9223372036854775807 ∧ l.length ≤ Rows.uptoBulk y.1 := by
  rcases open_slice_fields Try.underlying22 Try.underlying32 (by kernel_rfl) (by kernel_rfl) h with ⟨hcs, hx⟩ | ⟨ad, len, cap, m, D, Pl, hcs, _, hl, hm, hmm, hx, hi⟩
  · simp only [List.cons.injEq, and_true] at hcs
    exact ⟨none, [], 0, hcs, Nat.le_refl _, ⟨rfl, by simp, fun h => by simp at h⟩, by simp, Nat.zero_le _⟩
  · simp only [List.cons.injEq, and_true] at hcs
    have hmm : m = cap := by simpa using hmm
    unfold maxLen at hm
    obtain ⟨l, hlen, hp⟩ := rows_of (P := fun i (x : S32) => w.cell? (ad.add (i * 3)) = some (.int .i64 x.f0) ∧ w.cell? (ad.add (i * 3 + 1)) = some (.int .i64 x.f1) ∧ w.cell? (ad.add (i * 3 + 2)) = some (.bool x.f2)) len (fun i hil => by
      obtain ⟨ys, n, hD, _, _, hf⟩ := hi i (by omega)
      obtain ⟨v0, y0, h0, _, t0⟩ := hf 0 _ rfl
      obtain ⟨v1, y1, h1, _, t1⟩ := hf 1 _ rfl
      obtain ⟨v2, y2, h2, _, t2⟩ := hf 2 _ rfl
      obtain ⟨n0, e0, _, _⟩ := DataW.trod_int Try.underlying3 t0
      obtain ⟨n1, e1, _, _⟩ := DataW.trod_int Try.underlying3 t1
      obtain ⟨b2, e2, _⟩ := DataW.trod_bool Try.underlying4 t2
      simp only [List.cons.injEq, and_true] at e0 e1 e2
      subst e0; subst e1; subst e2
      exact ⟨⟨n0, n1, b2⟩, h0, h1, h2⟩)
    refine ⟨some ad, l, cap, by rw [hlen]; exact hcs, by omega, ⟨rfl, by omega, fun _ => ⟨ad, rfl, fun j p hj => ⟨[.int .i64 p.f0, .int .i64 p.f1, .bool p.f2], rfl, k32_mk w p, fun i u hu => ?_⟩⟩⟩, by omega, ?_⟩
    · obtain ⟨h0, h1, h2⟩ := hp j p hj
      match i, hu with
      | 0, hu => simp only [List.getElem?_cons_zero, Option.some.injEq] at hu; subst hu; exact h0
      | 1, hu => simp only [List.getElem?_cons_succ, List.getElem?_cons_zero, Option.some.injEq] at hu; subst hu; exact h1
      | 2, hu => simp only [List.getElem?_cons_succ, List.getElem?_cons_zero, Option.some.injEq] at hu; subst hu; exact h2
    · rw [hx, hlen]
      have h1 := length_le ((List.range len).map D)
      rw [List.length_map, List.length_range] at h1
      exact Nat.le_trans h1 (by simp only [Rows.uptoBulk]; exact Nat.le_trans (Nat.le_add_right _ _) (Nat.le_succ _))
set_option maxRecDepth 100000 in
theorem edges_open {H : Type} {enc : TypeId × Value → H} {w : World} {r : Reach} {base : Nat} {v : Value} {d : DataW H} {p : List MemPlace}
    (hval : Value.okWide Try.prog w r base 22 v) (h : DataW.Trod enc Try.prog w 0 (fun _ => true) true 22 v d p) :
    ∃ (A : Option Addr) (l : List S32) (c : Nat), v = .slice A l.length c ∧ l.length ≤ c ∧ Kd.C k32 w A l.length l ∧ l.length ≤ 9223372036854775807 ∧ l.length ≤ Rows.uptoBulk d := by
  obtain ⟨a, len, cap, rfl⟩ := okWide_slice Try.underlying22 hval
  obtain ⟨fuel, h⟩ := h
  obtain ⟨A, l, c, h1, h2, h3, h4, h5⟩ := edges_of (show DataW.trod enc Try.prog w 0 (fun _ => true) true fuel 22 [.slice a len cap] = some (d, p) from h)
  exact ⟨A, l, c, h1, h2, h3, h4, h5⟩
set_option maxRecDepth 100000 in
theorem pair_open {H : Type} {enc : TypeId × Value → H} {w : World} {r : Reach} {base : Nat} {v : Value} {d : DataW H} {p : List MemPlace}
    (hval : Value.okWide Try.prog w r base 37 v) (h : DataW.Trod enc Try.prog w 0 (fun _ => true) true 37 v d p) :
    ∃ a b : Int, v = .agg #[.int .i64 a, .int .i64 b] ∧ (Lit.int .i64 a).wf = true ∧ (Lit.int .i64 b).wf = true := by
  have hS : Try.prog.cellsOf 3 = 1 := by kernel_rfl
  have hN : Try.prog.cellsOf 37 = 2 := by kernel_rfl
  have hv : ∃ cs : Array Value, v = .agg cs ∧ cs.size = 2 := by
    simp only [Value.okWide, Try.underlying37] at hval
    obtain ⟨cs, h1, h2, _⟩ := hval
    exact ⟨cs, h1, by rw [h2, hN]⟩
  obtain ⟨cs, rfl, hsz⟩ := hv
  obtain ⟨c0, c1, rfl⟩ : ∃ c0 c1, cs = #[c0, c1] := by
    obtain ⟨l⟩ := cs
    match l, hsz with
    | [c0, c1], _ => exact ⟨c0, c1, rfl⟩
  obtain ⟨fuel, h⟩ := h
  obtain ⟨xs, n, _, hx, hl, hlen, hf⟩ := DataW.trod_array Try.underlying37 h
  have f0 := hf 0 (by omega)
  have f1 := hf 1 (by omega)
  obtain ⟨y0, y1, rfl⟩ : ∃ y0 y1, xs = [y0, y1] := by
    match xs, hlen with
    | [y0, y1], _ => exact ⟨y0, y1, rfl⟩
  rw [hS] at f0 f1
  simp only [Value.cells, Nat.zero_mul, Nat.one_mul, List.drop_zero, List.drop_succ_cons, List.take_succ_cons, List.take_zero, List.getElem?_cons_zero, List.getElem?_cons_succ] at f0 f1
  obtain ⟨a, e0, _, w0⟩ := DataW.trod_int Try.underlying3 f0
  obtain ⟨b, e1, _, w1⟩ := DataW.trod_int Try.underlying3 f1
  simp only [List.cons.injEq, and_true] at e0 e1
  subst e0; subst e1
  exact ⟨a, b, rfl, w0, w1⟩
end Go.Proofs.Ytkcfjnacnabdaaa.GraArg
