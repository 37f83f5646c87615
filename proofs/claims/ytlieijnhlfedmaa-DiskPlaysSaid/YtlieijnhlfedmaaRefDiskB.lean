/- The document's disk: Read. -/
import Derived.Test.YtlieijnhlfedmaaRefDisk
import Derived.Laws.CopyOwn
namespace Go.Proofs.Ytlieijnhlfedmaa
open Go.RowKit

theorem code_zero {D : DK} {i : Int} (h : D.code i = 0) : D.off = false ∧ 0 ≤ i ∧ i < D.len := by
  unfold DK.code at h
  split at h
  · cases h
  · split at h
    · cases h
    · rename_i h1 h2
      exact ⟨by simpa using h1, by omega, by omega⟩
theorem code_not {D : DK} {i : Int} (h : D.code i ≠ 0) : (D.off = true ∧ D.code i = 2) ∨ (D.off = false ∧ D.code i = 10 ∧ (i < 0 ∨ D.len ≤ i)) := by
  unfold DK.code at h ⊢
  by_cases h1 : D.off = true
  · rw [if_pos h1]; exact .inl ⟨h1, rfl⟩
  · rw [if_neg h1] at h ⊢
    by_cases h2 : i < 0 ∨ D.len ≤ i
    · rw [if_pos h2]; exact .inr ⟨by simpa using h1, rfl, h2⟩
    · rw [if_neg h2] at h; exact absurd rfl h
set_option maxHeartbeats 800000 in
theorem refRead_no {nb : Nat} (w : World) (p q cap : Nat) (left : Int) (D : DK) (i : Int) (h : RefAt nb w p q cap left D) (hc : D.code i ≠ 0) :
    Calls Try.prog 27 #[.pointer (some ⟨p, 0, none⟩), .int .i64 i] w fun e w' => e = .returned (.tuple #[.slice none 0 0, .int .i64 (D.code i)]) ∧ w = w' := by
  have c0 := cellOf h.cells 0
  have c1 := cellOf h.cells 1
  simp [refCells] at c0 c1
  have hlo := h.lo
  clear h
  rcases code_not hc with ⟨h1, h2⟩ | ⟨h1, h2, h3⟩
  · rw [h1] at c1
    rw [h2]
    clear hc h1 h2
    go_enter Try.func27, Try.ntmps27
    go_wp2
    go_ret2
    exact ⟨rfl, rfl⟩
  · rw [h1] at c1
    rw [h2]
    clear hc h1 h2
    rcases h3 with h3 | h3
    · go_enter Try.func27, Try.ntmps27
      go_wp2
      go_ret2
      exact ⟨rfl, rfl⟩
    · have h4 : ¬ i < 0 := by omega
      have h5 : ((D.len.toNat : Nat) : Int) ≤ i := by omega
      go_enter Try.func27, Try.ntmps27
      go_wp2
      go_ret2
      exact ⟨rfl, rfl⟩
theorem zeros_cells : (zerosN 64).map bv = (bvs zeros64).toList := by rfl
set_option maxHeartbeats 2000000 in
theorem refRead_calls {nb : Nat} (w : World) (p q cap : Nat) (left : Int) (D : DK) (i : Int) (h : RefAt nb w p q cap left D) (hc : D.code i = 0) :
    Calls Try.prog 27 #[.pointer (some ⟨p, 0, none⟩), .int .i64 i] w fun e w' => ∃ b, e = .returned (.tuple #[.slice (some ⟨b, 0, none⟩) 64 64, .int .i64 0]) ∧ RowAt w' ⟨b, 0, none⟩ (D.get i) ∧ (D.get i).length = 64 ∧ Only (fun _ => False) w w' := by
  have c0 := cellOf h.cells 0
  have c1 := cellOf h.cells 1
  simp [refCells] at c0 c1
  obtain ⟨h1, h2, h3⟩ := code_zero hc
  rw [h1] at c1
  obtain ⟨m, rfl⟩ := Int.eq_ofNat_of_zero_le h2
  have hm : m < D.len.toNat := by omega
  have hmz : (m : Int) < ((D.len.toNat : Nat) : Int) := by omega
  obtain ⟨v, hv, he⟩ := h.elem m hm
  have hmk : ∀ w : World, (Instr.makeSlice 22 (.int .i64 64) (.int .i64 64)).run Try.prog w = .ok (.slice (some ⟨w.heap.size, 0, none⟩) 64 64) (w.alloc (.cells (bvs (zerosN 64)) 5)) := fun w => run_make_bytes w 64 (by omega)
  have e0 : ∀ o, (w.alloc o).cell? ⟨q, m, none⟩ = some v := fun o => Lib.cell?_alloc_some _ hv
  have g0 : ∀ o, (w.alloc o).cell? ⟨p, 0, none⟩ = some (.slice (some ⟨q, 0, none⟩) D.len.toNat cap) := fun o => Lib.cell?_alloc_some _ c0
  have HV := Lib.hid he
  have HD := Lib.hid h
  have hsz : (Try.prog.info? 5).map (·.size) = some 1 := by kernel_rfl
  have HSZ := Lib.hid hsz
  clear he h hc h1 hv hsz
  go_enter Try.func27, Try.ntmps27
  go_wp2_with ((with_reducible refine gate_dst_ (N := 31) rfl ?_); refine unhid_ ?_)
  have hbel : Below w.heap.size w (w.alloc (.cells (bvs (zerosN 64)) 5)) := (Below.refl _ w).alloc (Nat.le_refl _) _
  have HB := Lib.hid hbel
  clear hbel
  rcases HV.out with ⟨hn, rfl⟩ | ⟨l, b, c, cs, hn, hl, rfl, h64, hcs, hrow, -⟩
  · refine Lib.hid ?_
    refine wpList_copy_splice rfl (.tmp 23) (.tmp 30) 22 22 rfl 5 Try.underlying22 HSZ.out (some ⟨w.heap.size, 0, none⟩) none 64 64 0 0 rfl rfl w.heap.size 0 ((zerosN 64).map bv) 5 (heap_alloc_new _ _) [] rfl (fun h => absurd h (by simp)) (by simp [zerosN]) (fun v hv => by simp at hv) w.heap.size w HB.out (Nat.le_refl _) ?_
    intro w3 hh hb
    have HB3 := Lib.hid hb
    clear hb
    go_wp2
    go_ret2
    have hg : D.get (m : Int) = zeros64 := by unfold DK.get; rw [hn]; rfl
    refine ⟨w.heap.size, rfl, ?_, by rw [hg]; rfl, ⟨HB3.out.os, HB3.out.tape, HB3.out.output, HB3.out.size, fun k hk _ => HB3.out.block k hk⟩⟩
    rw [hg]
    exact .of_cells (t := 5) (z := (0, 0)) (by rw [hh.out]; rfl)
  · have hrow2 : ∀ o, RowAt (w.alloc o) ⟨b, 0, none⟩ l := fun o => hrow.grow ((Only.refl _ w).alloc o) (by omega)
    have HR := Lib.hid hrow2
    clear hrow hrow2
    refine Lib.hid ?_
    refine wpList_copy_splice rfl (.tmp 23) (.tmp 30) 22 22 rfl 5 Try.underlying22 HSZ.out (some ⟨w.heap.size, 0, none⟩) (some ⟨b, 0, none⟩) 64 64 64 c rfl rfl w.heap.size 0 ((zerosN 64).map bv) 5 (heap_alloc_new _ _) (l.map bv) (by rw [List.length_map, hl]; rfl) (fun _ => ⟨rfl, _, rfl, fun j v hv => ?qc⟩) (by rw [List.length_map, hl]; simp [zerosN]) (fun v hv => by obtain ⟨x, _, rfl⟩ := List.mem_map.1 hv; rfl) w.heap.size w HB.out (Nat.le_refl _) ?_
    case qc =>
      rw [List.getElem?_map] at hv
      cases hj : l[j]? with
      | none => rw [hj] at hv; cases hv
      | some x =>
        rw [hj] at hv
        obtain rfl := Option.some.inj hv
        exact HR.out _ j x hj
    intro w3 hh hb
    have HB3 := Lib.hid hb
    clear hb
    go_wp2
    go_ret2
    have hg : D.get (m : Int) = l := by unfold DK.get; rw [hn]; rfl
    refine ⟨w.heap.size, rfl, ?_, by rw [hg, hl], ⟨HB3.out.os, HB3.out.tape, HB3.out.output, HB3.out.size, fun k hk _ => HB3.out.block k hk⟩⟩
    rw [hg]
    refine .of_cells (t := 5) (z := (0, 0)) ?_
    rw [hh.out]
    have hs : splice ((zerosN 64).map bv) 0 (l.map bv) = l.map bv := by
      unfold splice
      rw [List.take_zero, List.nil_append, List.drop_eq_nil_of_le (by rw [List.length_map, List.length_map, hl]; simp [zerosN]), List.append_nil]
    rw [hs]
    rfl
/-- Read, whatever the place. -/
theorem refRead_any {nb : Nat} (w : World) (p q cap : Nat) (left : Int) (D : DK) (i : Int) (h : RefAt nb w p q cap left D) :
    Calls Try.prog 27 #[.pointer (some ⟨p, 0, none⟩), .int .i64 i] w fun e w' => ∃ v, e = .returned v ∧ ReadRes D i v w' ∧ Only (fun _ => False) w w' := by
  by_cases hc : D.code i = 0
  · refine (refRead_calls w p q cap left D i h hc).mono ?_
    rintro e w' ⟨b, rfl, hr, hl, ho⟩
    have hs : D.shows i = D.get i := by unfold DK.shows; rw [if_pos hc]
    exact ⟨_, rfl, ⟨some ⟨b, 0, none⟩, 64, 64, by rw [hc], by rw [hs, hl], by rw [hs]; exact .of_row hr, Nat.le_refl _⟩, ho⟩
  · refine (refRead_no w p q cap left D i h hc).mono ?_
    rintro e w' ⟨rfl, rfl⟩
    have hs : D.shows i = [] := by unfold DK.shows; rw [if_neg hc]
    exact ⟨_, rfl, ⟨none, 0, 0, rfl, by rw [hs]; rfl, by rw [hs]; exact .nil _ _, Nat.le_refl _⟩, Only.refl _ _⟩
end Go.Proofs.Ytlieijnhlfedmaa
