/- The contracts of Write (power off, done) and Read, Clone of package disk. -/
import Derived.Test.YtpmlmjbhgonegaaDisk
namespace Go.Proofs.Ytpmlmjbhgonegaa
open Go.RowKit

set_option maxHeartbeats 400000 in
theorem write_blown (w : World) (p r : Nat) (D : DK) (i : Int) (a : Option Addr) (c : Nat) (h : DiskAt w p r D) (hc : D.code i = 0) (hf : D.fuse = 0) :
    Calls Try.prog 32 #[.pointer (some ⟨p, 0, none⟩), .int .i64 i, .slice a 64 c] w fun e w' => e = .returned (.int .i64 2) ∧ DiskAt w' p r D.blown ∧ Only (· = p) w w' := by
  have hd := h
  have hk := check_calls w p r D i h.cells
  rw [hc] at hk
  have H := Lib.hid hk
  obtain ⟨len, off, fuse, n, has⟩ := D
  have c2 := cellOf h.cells 2
  have c3 := cellOf h.cells 3
  have f2 := freeOf h.cells 2
  have f3 := freeOf h.cells 3
  have hcs := Lib.hid h.cells
  have HD := Lib.hid hd
  simp only at hf
  subst hf
  simp [diskCells] at c2 c3
  clear hk h hc hd
  go_enter Try.func32, Try.ntmps32
  go_wp2_with (go_at_call 33; refine H.out.mono ?_; rintro e w' ⟨rfl, rfl⟩)
  go_ret
  have k : Only (· = p) w ((w.setCell ⟨p, 2, none⟩ (.bool true)).setCell ⟨p, 3, none⟩ (.int .i64 (-1))) := ((Only.refl _ w).put 2 _).put 3 _
  have e := heap_setCell_same (w.setCell ⟨p, 2, none⟩ (.bool true)) p 3 _ _ (.int .i64 (-1)) (heap_setCell_same w p 2 _ _ (.bool true) hcs.out)
  exact ⟨rfl, HD.out.turn _ rfl k (by rw [e]; rfl), k⟩

section
variable {P : Program} {ops : Array Oper} {rest : List Oper} {o : Oper} {a : Act} {Q : Exit → Act → World → Prop}
theorem wpList_load_block (w : World) (hg : o.guard = none) (x : Operand) (ho : o.op = Op.load 76 x) (ad : Addr) (hx : a.eval x = .pointer (some ad)) (l : List UInt8) (hl : l.length = 64) (hr : RowAt w ad l)
    (h : wpList Try.prog ops Q rest (a.put o.dst (.agg (bvs l))) w) : wpList Try.prog ops Q (o :: rest) a w := by
  refine wpList_plain hg fun K' hK' => ?_
  have hrun := run_loadBlock w ad l hl hr
  unfold Oper.wp
  simp [execOp, ho, hx, Instr.loadAt, Instr.sureAddr, hrun, Result.andThen]
  exact hK' _ _ h
theorem wpStill_load_block {R : Act → Prop} (w : World) (hg : o.guard = none) (x : Operand) (ho : o.op = Op.load 76 x) (ad : Addr) (hx : a.eval x = .pointer (some ad)) (l : List UInt8) (hl : l.length = 64) (hr : RowAt w ad l)
    (h : wpStill Try.prog ops w R rest (a.put o.dst (.agg (bvs l)))) : wpStill Try.prog ops w R (o :: rest) a := by
  refine wpStill_step fun K' hK' => ?_
  have hrun := run_loadBlock w ad l hl hr
  rw [if_pos (by simp [Region.wanted, hg])]
  unfold Oper.still
  simp [execOp, ho, hx, Instr.loadAt, Instr.sureAddr, hrun, Result.andThen, Oper.stillUpon]
  exact hK' _ h
end

set_option maxHeartbeats 400000 in
theorem write_ok_burns (w : World) (p r : Nat) (D : DK) (i : Int) (a : Addr) (l : List UInt8) (c : Nat) (h : DiskAt w p r D) (hc : D.code i = 0) (hl : l.length = 64) (hr : RowAt w a l) (hf : 0 < D.fuse) (hf' : D.fuse ≤ 9223372036854775807) (hw : 0 ≤ D.writes) (hw' : D.writes < 9223372036854775807) :
    Calls Try.prog 32 #[.pointer (some ⟨p, 0, none⟩), .int .i64 i, .slice (some a) 64 c] w fun e w' => e = .returned (.int .i64 0) ∧ DiskAt w' p r (D.wrote i l) ∧ Only (fun k => k = p ∨ k = r) w w' := by
  have hd := h
  have hk := check_calls w p r D i h.cells
  rw [hc] at hk
  have H := Lib.hid hk
  obtain ⟨len, off, fuse, n, has⟩ := D
  have c1 := cellOf h.cells 1
  have c3 := cellOf h.cells 3
  have c4 := cellOf h.cells 4
  have f3 := freeOf h.cells 3
  have f4 := freeOf h.cells 4
  have hcs := Lib.hid h.cells
  have HD := Lib.hid hd
  simp only at hf hf' hw hw'
  have hf0 : (fuse == 0) = false := by rw [beq_eq_false_iff_ne]; omega
  simp [diskCells] at c1 c3 c4
  clear hk h hc hd
  have harr : ∀ w, (Instr.arrayAt 76 (.slice (some a) 64 c)).run Try.prog w = .ok (.pointer (some a)) w := fun _ => by kernel_rfl
  go_enter Try.func32, Try.ntmps32
  go_wp2_with (go_at_call 33; refine H.out.mono ?_; rintro e w' ⟨rfl, rfl⟩)
  obtain ⟨w1, hw1⟩ : ∃ w1 : World, w1 = w.setCell ⟨p, 3, none⟩ (.int .i64 (fuse - 1)) := ⟨_, rfl⟩
  rw [← hw1]
  have hk1 : Only (· = p) w w1 := by rw [hw1]; exact (Only.refl _ w).put 3 _
  have hD1 : DiskAt w1 p r ⟨len, off, fuse - 1, n, has⟩ := HD.out.turn _ rfl hk1 (by rw [hw1, heap_setCell_same w p 3 _ _ _ hcs.out]; rfl)
  have hr1 : RowAt w1 a l := hr.only hk1 (HD.out.row_ne hr (by omega)).1 (hr.lt (by omega))
  have HD1 := Lib.hid hD1
  have K1 := Lib.hid hk1
  clear hD1 hw1 hk1 c1 c3 c4 f3 f4 hr
  have c1 := cellOf HD1.out.cells 1
  simp [diskCells] at c1
  obtain ⟨es, ck, hm, hik, hlk⟩ := HD1.out.map
  have HM := Lib.hid hm
  have HIK := Lib.hid hik
  have HLK := Lib.hid hlk
  clear hm hik hlk
  refine wp_region_tail 8 (by kernel_rfl) (by kernel_rfl) ?_
  simp only [List.take_succ_cons, List.take_zero, List.drop_succ_cons, List.drop_zero]
  iterate 7 still_step
  refine wpStill_load_block _ rfl _ rfl a rfl l hl hr1 ?_
  refine wpStill_nil ?_
  refine wpList_mapUpdate_int _ rfl _ _ _ 65 rfl 3 76 Try.underlying65 Try.underlying3 r es ck rfl HM.out HIK.out i (.agg (bvs l)) rfl rfl ?_
  intro es' ck' w2 g1 g2 g3 g4 g5
  have hne := HD1.out.ne
  have G := Lib.hid (⟨g1, g3, g4, g5⟩ : Only (· = r) w1.drew w2 ∧ w2.heap[r]? = some (.map es' ck') ∧ intKeys es'.toList ∧ (∀ n, lookI es'.toList n = if n = i then some (.agg (bvs l)) else lookI es.toList n))
  have hc2 : w2.heap[p]? = some (.cells (diskCells ⟨len, off, fuse - 1, n, has⟩ r) 67 (0, 0)) := g1.keeps (w := w1.drew) HD1.out.cells hne
  have c4 := cellOf hc2 4
  have f4 := freeOf hc2 4
  simp [diskCells] at c4
  have HC2 := Lib.hid hc2
  clear g1 g2 g3 g4 g5 hc2 hne c1
  go_wp2
  go_ret
  obtain ⟨g1, g3, g4, g5⟩ := G.out
  have k2 : Only (fun k => k = p ∨ k = r) w2 (w2.setCell ⟨p, 4, none⟩ (.int .i64 (n + 1))) := ((Only.refl _ w2).put 4 _).mono (fun _ _ => Or.inl)
  have hs1 : w1.heap.size = w1.drew.heap.size := rfl
  refine ⟨rfl, ⟨?_, ⟨es', ck', ?_, g4, fun m => ?_⟩, fun m lm hm => ?_⟩, ?_⟩
  · rw [heap_setCell_same w2 p 4 _ _ _ HC2.out]
    simp [diskCells, DK.wrote, hf]
  · rw [heap_setCell_other _ _ _ _ (fun e => HD1.out.ne e.symm)]; exact g3
  · rw [g5, HLK.out]
    simp only [DK.wrote]
    split <;> rfl
  · simp only [DK.wrote] at hm
    split at hm
    · cases hm; exact hl
    · exact HD.out.long _ _ hm
  · refine ((K1.out.mono (fun _ _ => Or.inl)).drew.trans ?_).trans k2
    exact g1.mono (fun _ _ => Or.inr)

set_option maxHeartbeats 400000 in
theorem write_ok_plain (w : World) (p r : Nat) (D : DK) (i : Int) (a : Addr) (l : List UInt8) (c : Nat) (h : DiskAt w p r D) (hc : D.code i = 0) (hl : l.length = 64) (hr : RowAt w a l) (hf : D.fuse < 0) (hw : 0 ≤ D.writes) (hw' : D.writes < 9223372036854775807) :
    Calls Try.prog 32 #[.pointer (some ⟨p, 0, none⟩), .int .i64 i, .slice (some a) 64 c] w fun e w' => e = .returned (.int .i64 0) ∧ DiskAt w' p r (D.wrote i l) ∧ Only (fun k => k = p ∨ k = r) w w' := by
  have hd := h
  have hk := check_calls w p r D i h.cells
  rw [hc] at hk
  have H := Lib.hid hk
  obtain ⟨len, off, fuse, n, has⟩ := D
  have c1 := cellOf h.cells 1
  have c3 := cellOf h.cells 3
  have HD := Lib.hid hd
  simp only at hf hw hw'
  have hf0 : (fuse == 0) = false := by rw [beq_eq_false_iff_ne]; omega
  simp [diskCells] at c1 c3
  obtain ⟨es, ck, hm, hik, hlk⟩ := h.map
  have HM := Lib.hid hm
  have HIK := Lib.hid hik
  have HLK := Lib.hid hlk
  clear hm hik hlk
  clear hk h hc hd
  have harr : ∀ w, (Instr.arrayAt 76 (.slice (some a) 64 c)).run Try.prog w = .ok (.pointer (some a)) w := fun _ => by kernel_rfl
  go_enter Try.func32, Try.ntmps32
  go_wp2_with (go_at_call 33; refine H.out.mono ?_; rintro e w' ⟨rfl, rfl⟩)
  refine wp_region_tail 8 (by kernel_rfl) (by kernel_rfl) ?_
  simp only [List.take_succ_cons, List.take_zero, List.drop_succ_cons, List.drop_zero]
  iterate 7 still_step
  refine wpStill_load_block _ rfl _ rfl a rfl l hl hr ?_
  refine wpStill_nil ?_
  refine wpList_mapUpdate_int _ rfl _ _ _ 65 rfl 3 76 Try.underlying65 Try.underlying3 r es ck rfl HM.out HIK.out i (.agg (bvs l)) rfl rfl ?_
  intro es' ck' w2 g1 g2 g3 g4 g5
  have hne := HD.out.ne
  have G := Lib.hid (⟨g1, g3, g4, g5⟩ : Only (· = r) w.drew w2 ∧ w2.heap[r]? = some (.map es' ck') ∧ intKeys es'.toList ∧ (∀ n, lookI es'.toList n = if n = i then some (.agg (bvs l)) else lookI es.toList n))
  have hc2 : w2.heap[p]? = some (.cells (diskCells ⟨len, off, fuse, n, has⟩ r) 67 (0, 0)) := g1.keeps (w := w.drew) HD.out.cells hne
  have c4 := cellOf hc2 4
  have f4 := freeOf hc2 4
  simp [diskCells] at c4
  have HC2 := Lib.hid hc2
  clear g1 g2 g3 g4 g5 hc2 hne c1 c3
  go_wp2
  go_ret
  obtain ⟨g1, g3, g4, g5⟩ := G.out
  have k2 : Only (fun k => k = p ∨ k = r) w2 (w2.setCell ⟨p, 4, none⟩ (.int .i64 (n + 1))) := ((Only.refl _ w2).put 4 _).mono (fun _ _ => Or.inl)
  refine ⟨rfl, ⟨?_, ⟨es', ck', ?_, g4, fun m => ?_⟩, fun m lm hm => ?_⟩, ?_⟩
  · rw [heap_setCell_same w2 p 4 _ _ _ HC2.out]
    have : ¬ 0 < fuse := by omega
    simp [diskCells, DK.wrote, this]
  · rw [heap_setCell_other _ _ _ _ (fun e => HD.out.ne e.symm)]; exact g3
  · rw [g5, HLK.out]
    simp only [DK.wrote]
    split <;> rfl
  · simp only [DK.wrote] at hm
    split at hm
    · cases hm; exact hl
    · exact HD.out.long _ _ hm
  · refine ((Only.refl _ w).drew.trans ?_).trans k2
    exact g1.mono (fun _ _ => Or.inr)

theorem bvs_zeros64 : (zeroValue 76).run Try.prog default = .ok (.agg (bvs zeros64)) default := by kernel_rfl

set_option maxHeartbeats 400000 in
theorem read_no (w : World) (p r : Nat) (D : DK) (i : Int) (h : DiskAt w p r D) (hc : D.code i ≠ 0) :
    Calls Try.prog 14 #[.pointer (some ⟨p, 0, none⟩), .int .i64 i] w fun e w' => e = .returned (.tuple #[.slice none 0 0, .int .i64 (D.code i)]) ∧ w = w' := by
  have hcs := h.cells
  have hk := check_calls w p r D i hcs
  have hb : (D.code i != 0) = true := by simpa using hc
  generalize D.code i = c at *
  have H := Lib.hid hk
  clear hk h hcs hc
  go_enter Try.func14, Try.ntmps14
  go_wp2_with (go_at_call 33; refine H.out.mono ?_; rintro e w' ⟨rfl, rfl⟩)
  go_ret2
  exact ⟨rfl, rfl⟩

set_option maxHeartbeats 400000 in
theorem read_calls (w : World) (p r : Nat) (D : DK) (i : Int) (h : DiskAt w p r D) (hc : D.code i = 0) :
    Calls Try.prog 14 #[.pointer (some ⟨p, 0, none⟩), .int .i64 i] w fun e w' => e = .returned (.tuple #[.slice (some ⟨w.heap.size, 0, none⟩) 64 64, .int .i64 0]) ∧ w' = w.alloc (.cells (bvs (D.get i)) 76) := by
  have hlong := DK.get_long h i
  have hk := check_calls w p r D i h.cells
  rw [hc] at hk
  have H := Lib.hid hk
  have c1 := cellOf h.cells 1
  simp [diskCells] at c1
  obtain ⟨es, ck, hm, hik, hlk⟩ := h.map
  have hlook := run_lookup_int Try.underlying65 Try.underlying3 (zeroBlock w) hm hik i false
  have hval : (lookI es.toList i).getD (.agg (bvs zeros64)) = .agg (bvs (D.get i)) := by
    rw [hlk]; unfold DK.get; cases D.has i <;> rfl
  rw [hval] at hlook
  simp only [Bool.false_eq_true, if_false] at hlook
  clear hm hik hlk hval hk h hc
  generalize D.get i = l at *
  have hz := zeroBlock
  have hst := run_storeCells_new Try.prog w (bvs zeros64) l 76 (by rw [bvs_size, hlong]; rfl)
  have hsz : (bvs l).size = 64 := by rw [bvs_size, hlong]
  clear hlong
  go_enter Try.func14, Try.ntmps14
  go_wp2_with (go_at_call 33; refine H.out.mono ?_; rintro e w' ⟨rfl, rfl⟩)
  go_ret2
  exact ⟨rfl, rfl⟩

theorem run_clone_map {P : Program} {w : World} {r : Nat} {es : Array MapEntry} {clock : Nat} (t : TypeId) (hb : w.heap[r]? = some (.map es clock)) :
    (Extern.MapsClone.clone #[.iface t (.map (some r))]).run P w = .ok (.iface t (.map (some w.heap.size))) (w.alloc (.map es clock)) := by
  have e : Extern.MapsClone.clone #[.iface t (.map (some r))] = (getObj r >>= fun o => match o with
      | .map entries clock => (newObj (.map entries clock) >>= fun n => pure (.iface t (.map (some n))))
      | _ => stuck "maps.clone: a map expected") := rfl
  have hg : (getObj r).run P w = .ok (.map es clock) w := by simp [getObj, Sem.run, hb]
  rw [e]
  simp [hg, Result.andThen, go_sem]

theorem run_typeAssert_map {P : Program} (w : World) (t xT k e : TypeId) (v : Value) (h : P.underlying t = some (.map k e)) : (Instr.typeAssert (.iface t v) xT t false).run P w = .ok v w := by
  simp [Instr.typeAssert, run_underlying h, go_sem, Result.andThen]

set_option maxHeartbeats 400000 in
theorem mapsClone_calls (w : World) (r : Nat) (es : Array MapEntry) (clock : Nat) (hb : w.heap[r]? = some (.map es clock)) :
    Calls Try.prog 35 #[.map (some r)] w fun e w' => e = .returned (.map (some w.heap.size)) ∧ w' = w.alloc (.map es clock) := by
  have hq : ∀ (w : World) (r : Option Nat), (binOp .eql 65 (.map r) (.map none)).run Try.prog w = .ok (.bool r.isNone) w := fun w r => run_eql_map_nil w _ _ _ r Try.underlying65
  go_enter Try.func35, Try.ntmps35
  go_wp2
  rw [run_callFunc_extern Try.func37 (by kernel_rfl) (by kernel_rfl) (by kernel_rfl) (e := Extern.MapsClone.clone) (by kernel_rfl), run_clone_map _ hb]
  simp only [Result.andThen]
  rw [Oper.upon_value]
  go_wp2
  rw [run_typeAssert_map _ _ _ _ _ _ Try.underlying65]
  simp only [Result.andThen]
  rw [Oper.upon_value]
  go_wp2
  go_ret
  exact ⟨rfl, rfl⟩

set_option maxHeartbeats 400000 in
/-- A clone: the same, in blocks of its own. -/
theorem clone_calls (w : World) (p r : Nat) (D : DK) (h : DiskAt w p r D) :
    Calls Try.prog 27 #[.pointer (some ⟨p, 0, none⟩)] w fun e w' => e = .returned (.pointer (some ⟨w.heap.size, 0, none⟩)) ∧ DiskAt w' w.heap.size (w.heap.size + 1) D ∧ Only (fun _ => False) w w' := by
  have hlong := Lib.hid h.long
  obtain ⟨len, off, fuse, n, has⟩ := D
  have hp := lt_of_heap h.cells
  have c0 := cellOf h.cells 0
  have c1 := cellOf h.cells 1
  have c2 := cellOf h.cells 2
  have c3 := cellOf h.cells 3
  have c4 := cellOf h.cells 4
  simp [diskCells] at c0 c1 c2 c3 c4
  obtain ⟨es, ck, hm, hik⟩ := h.map
  have HIK := Lib.hid hik
  have hm' := fun o => heap_alloc_old w o (lt_of_heap hm)
  rw [hm] at hm'
  have HM := Lib.hid hm'
  clear hm hik h hm'
  go_enter Try.func27, Try.ntmps27
  go_wp2_with (go_at_call 35; refine (mapsClone_calls _ r es ck (HM.out _)).mono ?_; rintro e w' ⟨rfl, rfl⟩)
  go_ret
  exact ⟨rfl, ⟨by rw [heap_alloc2_old]; rfl, ⟨es, ck, by rw [heap_alloc2_new], HIK.out⟩, hlong.out⟩, ((Only.refl _ w).alloc _).alloc _⟩

/-- How the disk is behind a write that was asked for, and what it answers: 'bs' are the bytes. -/
def DK.write (D : DK) (i : Int) (bs : List UInt8) : DK × Int :=
  if D.code i ≠ 0 then (D, D.code i) else if bs.length ≠ 64 then (D, 11) else if D.fuse = 0 then (D.blown, 2) else (D.wrote i bs, 0)

/-- A slice that shows these bytes. -/
structure SliceAt (w : World) (a : Option Addr) (l : List UInt8) : Prop where
  row : ∀ ad, a = some ad → RowAt w ad l
  there : l ≠ [] → ∃ ad, a = some ad

theorem write_calls (w : World) (p r : Nat) (D : DK) (i : Int) (a : Option Addr) (l : List UInt8) (c : Nat) (h : DiskAt w p r D) (hr : SliceAt w a l) (hf' : D.fuse ≤ 9223372036854775807) (hw : 0 ≤ D.writes) (hw' : D.writes < 9223372036854775807) :
    Calls Try.prog 32 #[.pointer (some ⟨p, 0, none⟩), .int .i64 i, .slice a l.length c] w fun e w' => e = .returned (.int .i64 (D.write i l).2) ∧ DiskAt w' p r (D.write i l).1 ∧ Only (fun k => k = p ∨ k = r) w w' := by
  unfold DK.write
  by_cases hc : D.code i = 0
  · rw [if_neg (by simpa using hc)]
    by_cases hl : l.length = 64
    · rw [if_neg (by simpa using hl)]
      obtain ⟨ad, rfl⟩ := hr.there (by intro e; rw [e] at hl; cases hl)
      rw [hl]
      by_cases hz : D.fuse = 0
      · rw [if_pos hz]
        exact (write_blown w p r D i (some ad) c h hc hz).mono fun e w' ⟨he, hd, ho⟩ => ⟨he, hd, ho.mono (fun _ _ => Or.inl)⟩
      · rw [if_neg hz]
        by_cases hp : 0 < D.fuse
        · exact write_ok_burns w p r D i ad l c h hc hl (hr.row ad rfl) hp hf' hw hw'
        · exact write_ok_plain w p r D i ad l c h hc hl (hr.row ad rfl) (by omega) hw hw'
    · rw [if_pos hl]
      exact (write_bytes w p r D i a l.length c h hc hl).mono fun e w' ⟨he, hd⟩ => by subst hd; exact ⟨he, h, Only.refl _ w⟩
  · rw [if_pos hc]
    exact (write_no w p r D i _ h hc).mono fun e w' ⟨he, hd⟩ => by subst hd; exact ⟨he, h, Only.refl _ w⟩

/-- What Read answers. -/
theorem SliceAt.of_row {w : World} {ad : Addr} {l : List UInt8} (h : RowAt w ad l) : SliceAt w (some ad) l := ⟨fun a e => by cases e; exact h, fun _ => ⟨ad, rfl⟩⟩
theorem SliceAt.nil (w : World) (a : Option Addr) : SliceAt w a [] := ⟨fun _ _ i b e => by simp at e, fun h => absurd rfl h⟩
end Go.Proofs.Ytpmlmjbhgonegaa
