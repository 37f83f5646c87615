/- An argument that is a node (a struct of numbers and a row of numbers), opened to its cells; what the bound on bulk gives of it. -/
import Derived.Test.YtgppfalpncbmbaaDoorRows
import Derived.Test.YtgppfalpncbmbaaDoorWWords
import Derived.ChangeSlices
import Derived.ChangeSame
import Derived.WideShapes
namespace Go.Proofs.YtgppfalpncbmbaaDoor.NodArg
open Go.ChangeShapes Go.WideShapes Go.RowKit Go.Proofs.YtgppfalpncbmbaaDoorW.PrintWords

theorem one_le {H : Type} (d : DataW H) : 1 ≤ Rows.uptoBulk d := by
  cases d with
  | lit l => cases l <;> simp [Rows.uptoBulk]
  | nil => simp [Rows.uptoBulk]
  | ptr d => simp [Rows.uptoBulk]
  | slice elems spare => simp [Rows.uptoBulk]
  | agg parts => simp [Rows.uptoBulk]
  | iface t d => simp [Rows.uptoBulk]
  | map entries => simp [Rows.uptoBulk]
  | held h => simp [Rows.uptoBulk]
theorem length_le {H : Type} (l : List (DataW H)) : l.length ≤ Rows.uptoBulkAll l := by
  induction l with
  | nil => simp [Rows.uptoBulkAll]
  | cons x r ih => have := one_le x; simp only [Rows.uptoBulkAll, List.length_cons]; omega
theorem part_le {H : Type} {d : DataW H} {l : List (DataW H)} (h : d ∈ l) : Rows.uptoBulk d ≤ Rows.uptoBulkAll l := by
  induction l with
  | nil => cases h
  | cons x r ih =>
    simp only [Rows.uptoBulkAll]
    cases List.mem_cons.1 h with
    | inl e => subst e; omega
    | inr e => have := ih e; omega
theorem ints_open {H : Type} {enc : TypeId × Value → H} {w : World} {fuel : Nat} {c : Value} {y : DataW H × List MemPlace}
    (h : DataW.trod enc Tryd.prog w 0 (fun _ => true) true fuel 35 [c] = some y) :
    ∃ (A : Option Addr) (l : List Int) (cap : Nat), c = .slice A l.length cap ∧ l.length ≤ cap ∧ Kd.C (Kd.int .i64) w A l.length l ∧ l.length ≤ Rows.uptoBulk y.1 := by
  have hC : Tryd.prog.cellsOf 3 = 1 := by kernel_rfl
  rcases open_ints Tryd.underlying35 Tryd.underlying3 hC h with ⟨hcs, hx⟩ | ⟨ad, len, cap, zs, hcs, _, hl, hm, hs, hx, hcell, _⟩
  · simp only [List.cons.injEq, and_true] at hcs
    exact ⟨none, [], 0, hcs, Nat.le_refl _, Kd.C_of_reads (d := 0) ⟨rfl, by simp, fun h => by simp at h⟩, Nat.zero_le _⟩
  · simp only [List.cons.injEq, and_true] at hcs
    have hs : zs.length = cap := by simpa using hs
    unfold maxLen at hm
    have hlen : (zs.take len).length = len := by rw [List.length_take]; omega
    refine ⟨some ad, zs.take len, cap, by rw [hlen]; exact hcs, by omega, Kd.C_of_reads (d := 0) ⟨rfl, by omega, fun _ => ⟨ad, rfl, fun j hj => ?_⟩⟩, ?_⟩
    · rw [hlen] at hj
      have e : (zs.take len).getD j 0 = zs.getD j 0 := by simp only [List.getD_eq_getElem?_getD, List.getElem?_take, if_pos hj]
      rw [hcell j (by omega), e]
    · rw [hx]
      have := length_le (lits (H := H) .i64 (zs.take len))
      have h2 : (lits (H := H) .i64 (zs.take len)).length = (zs.take len).length := by simp [lits]
      rw [← h2]
      exact Nat.le_trans this (by simp only [Rows.uptoBulk]; exact Nat.le_trans (Nat.le_add_right _ _) (Nat.le_succ _))
theorem int_open {H : Type} {enc : TypeId × Value → H} {w : World} {fuel : Nat} {c : Value} {y : DataW H × List MemPlace}
    (h : DataW.trod enc Tryd.prog w 0 (fun _ => true) true fuel 3 [c] = some y) : ∃ n, c = .int .i64 n := by
  obtain ⟨n, hc, _, _⟩ := DataW.trod_int Tryd.underlying3 h
  simp only [List.cons.injEq, and_true] at hc
  exact ⟨n, hc⟩
set_option maxRecDepth 10000 in
theorem node_open {H : Type} {enc : TypeId × Value → H} {w : World} {r : Reach} {base : Nat} {v : Value} {d : DataW H} {p : List MemPlace}
    (hval : Value.okWide Tryd.prog w r base 37 v) (h : DataW.Trod enc Tryd.prog w 0 (fun _ => true) true 37 v d p) :
    ∃ (k m s : Int) (A : Option Addr) (l : List Int) (c : Nat) (mo : Int), v = .agg #[.int .i64 k, .int .i64 m, .int .i64 s, .slice A l.length c, .int .i64 mo] ∧ l.length ≤ c ∧ Kd.C (Kd.int .i64) w A l.length l ∧ l.length ≤ Rows.uptoBulk d := by
  have hI : Tryd.prog.cellsOf 3 = 1 := by kernel_rfl
  have hS : Tryd.prog.cellsOf 35 = 1 := by kernel_rfl
  have hN : Tryd.prog.cellsOf 37 = 5 := by kernel_rfl
  obtain ⟨cs, rfl, hsz⟩ := okWide_struct Tryd.underlying37 hval
  rw [hN] at hsz
  obtain ⟨c0, c1, c2, c3, c4, rfl⟩ : ∃ c0 c1 c2 c3 c4, cs = #[c0, c1, c2, c3, c4] := by
    obtain ⟨l⟩ := cs
    match l, hsz with
    | [c0, c1, c2, c3, c4], _ => exact ⟨c0, c1, c2, c3, c4, rfl⟩
  obtain ⟨fuel, h⟩ := h
  obtain ⟨xs, n, _, hx, hl, hlen, hf⟩ := DataW.trod_struct Tryd.underlying37 h
  have f0 := hf 0 _ rfl
  have f1 := hf 1 _ rfl
  have f2 := hf 2 _ rfl
  have f3 := hf 3 _ rfl
  have f4 := hf 4 _ rfl
  obtain ⟨y0, y1, y2, y3, y4, rfl⟩ : ∃ y0 y1 y2 y3 y4, xs = [y0, y1, y2, y3, y4] := by
    match xs, hlen with
    | [y0, y1, y2, y3, y4], _ => exact ⟨y0, y1, y2, y3, y4, rfl⟩
  simp only [Value.cells, List.getElem?_cons_zero, List.getElem?_cons_succ] at f0 f1 f2 f3 f4
  obtain ⟨k, rfl⟩ := int_open f0
  obtain ⟨m, rfl⟩ := int_open f1
  obtain ⟨s, rfl⟩ := int_open f2
  obtain ⟨A, l, c, rfl, hc, hC, hb⟩ := ints_open f3
  obtain ⟨mo, rfl⟩ := int_open f4
  refine ⟨k, m, s, A, l, c, mo, rfl, hc, hC, Nat.le_trans hb ?_⟩
  have hd : d = .agg ([y0, y1, y2, y3, y4].map (·.1)) := congrArg Prod.fst hx
  rw [hd]
  exact Nat.le_trans (part_le (show y3.1 ∈ [y0, y1, y2, y3, y4].map (·.1) by simp)) (by simp only [Rows.uptoBulk]; exact Nat.le_succ _)
end Go.Proofs.YtgppfalpncbmbaaDoor.NodArg
