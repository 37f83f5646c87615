/- The document's disk: Write. -/
import Derived.Test.YtlieijnhlfedmaaRefDiskB
import Derived.Test.YtlieijnhlfedmaaGrowT
namespace Go.Proofs.Ytlieijnhlfedmaa
open Go.RowKit

set_option maxHeartbeats 800000 in
theorem refWrite_no {nb : Nat} (w : World) (p q cap : Nat) (left : Int) (D : DK) (i : Int) (b : Value) (h : RefAt nb w p q cap left D) (hc : D.code i ≠ 0) :
    Calls Try.prog 21 #[.pointer (some ⟨p, 0, none⟩), .int .i64 i, b] w fun e w' => e = .returned (.int .i64 (D.code i)) ∧ w = w' := by
  have c0 := cellOf h.cells 0
  have c1 := cellOf h.cells 1
  simp [refCells] at c0 c1
  have hlo := h.lo
  clear h
  rcases code_not hc with ⟨h1, h2⟩ | ⟨h1, h2, h3⟩
  · rw [h1] at c1
    rw [h2]
    clear hc h1 h2
    go_enter Try.func21, Try.ntmps21
    go_wp2
    go_ret
    exact ⟨rfl, rfl⟩
  · rw [h1] at c1
    rw [h2]
    clear hc h1 h2
    rcases h3 with h3 | h3
    · go_enter Try.func21, Try.ntmps21
      go_wp2
      go_ret
      exact ⟨rfl, rfl⟩
    · have h4 : ¬ i < 0 := by omega
      have h5 : ((D.len.toNat : Nat) : Int) ≤ i := by omega
      go_enter Try.func21, Try.ntmps21
      go_wp2
      go_ret
      exact ⟨rfl, rfl⟩
set_option maxHeartbeats 800000 in
theorem refWrite_bytes {nb : Nat} (w : World) (p q cap : Nat) (left : Int) (D : DK) (i : Int) (a : Option Addr) (n c : Nat) (h : RefAt nb w p q cap left D) (hc : D.code i = 0) (hn : n ≠ 64) :
    Calls Try.prog 21 #[.pointer (some ⟨p, 0, none⟩), .int .i64 i, .slice a n c] w fun e w' => e = .returned (.int .i64 11) ∧ w = w' := by
  have c0 := cellOf h.cells 0
  have c1 := cellOf h.cells 1
  simp [refCells] at c0 c1
  obtain ⟨h1, h2, h3⟩ := code_zero hc
  rw [h1] at c1
  have h4 : i < ((D.len.toNat : Nat) : Int) := by omega
  have hn' : ¬ ((n : Int) = 64) := by omega
  clear h hc h1
  go_enter Try.func21, Try.ntmps21
  go_wp2
  go_ret
  exact ⟨rfl, rfl⟩
set_option maxHeartbeats 800000 in
theorem refWrite_blown {nb : Nat} (w : World) (p q cap : Nat) (left : Int) (D : DK) (i : Int) (a : Option Addr) (c : Nat) (h : RefAt nb w p q cap left D) (hc : D.code i = 0) (hf : D.fuse = 0) :
    Calls Try.prog 21 #[.pointer (some ⟨p, 0, none⟩), .int .i64 i, .slice a 64 c] w fun e w' => e = .returned (.int .i64 2) ∧ RefAt nb w' p q cap left D.blown ∧ Only (· = p) w w' := by
  have c0 := cellOf h.cells 0
  have c1 := cellOf h.cells 1
  have c2 := cellOf h.cells 2
  have c3 := cellOf h.cells 3
  have f1 := freeOf h.cells 1
  have f2 := freeOf h.cells 2
  have hl := h.left (by omega)
  have hcs := Lib.hid h.cells
  simp [refCells] at c0 c1 c2 c3
  obtain ⟨h1, h2, h3⟩ := code_zero hc
  rw [h1] at c1
  rw [hl, hf] at c3
  rw [show decide (0 ≤ D.fuse) = true from decide_eq_true (by omega)] at c2
  have h4 : i < ((D.len.toNat : Nat) : Int) := by omega
  have HD := Lib.hid h
  have HL := Lib.hid hl
  clear h hc h1 hl hf
  go_enter Try.func21, Try.ntmps21
  go_wp2
  go_ret
  have k : Only (· = p) w ((w.setCell ⟨p, 1, none⟩ (.bool true)).setCell ⟨p, 2, none⟩ (.bool false)) := ((Only.refl _ w).put 1 _).put 2 _
  have e := heap_setCell_same (w.setCell ⟨p, 1, none⟩ (.bool true)) p 2 _ _ (.bool false) (heap_setCell_same w p 1 _ _ (.bool true) hcs.out)
  exact ⟨rfl, HD.out.turn _ left rfl rfl k (by rw [e]; rfl) (by intro h; simp [DK.blown] at h), k⟩
/-- A row of the call's own, new, that shows these bytes. -/
def NewRow (B : Nat) (l : List UInt8) (v : Value) (w : World) : Prop := ∃ (b c : Nat) (cs : Array Value), v = .slice (some ⟨b, 0, none⟩) 64 c ∧ 64 ≤ c ∧ w.heap[b]? = some (.cells cs 5 (0, 0)) ∧ RowAt w ⟨b, 0, none⟩ l ∧ B ≤ b
theorem NewRow.grow {B : Nat} {l : List UInt8} {v : Value} {w w' : World} (h : NewRow B l v w) (k : Only (fun _ => False) w w') : NewRow B l v w' := by
  obtain ⟨b, c, cs, h1, h2, h3, h4, h5⟩ := h
  exact ⟨b, c, cs, h1, h2, k.keeps h3 (fun e => e), h4.only k (fun e => e) (lt_of_heap h3), h5⟩
/-- A place of the row is written. -/
theorem RefAt.row_ne {nb : Nat} {w : World} {p q cap : Nat} {left : Int} {D : DK} (h : RefAt nb w p q cap left D) {a : Addr} {l : List UInt8} (hr : RowAt w a l) (hl : 0 < l.length) : a.block ≠ p := by
  have h0 := hr 0 l[0] (by simp)
  have ha : a.add 0 = a := rfl
  rw [ha] at h0
  intro e
  rw [World.cell?, e, h.cells] at h0
  simp only at h0
  split at h0
  · cases h0
  · have hn : (refCells D q cap left)[a.off]? = some (bv l[0]) := h0
    have hlt : a.off < 5 := by
      rcases Nat.lt_or_ge a.off 5 with hx | hx
      · exact hx
      · rw [Array.getElem?_eq_none (by simpa [refCells] using hx)] at hn; cases hn
    have : a.off = 0 ∨ a.off = 1 ∨ a.off = 2 ∨ a.off = 3 ∨ a.off = 4 := by omega
    rcases this with e | e | e | e | e <;> rw [e] at hn <;> simp [refCells, bv] at hn
theorem RefAt.wrote {nb : Nat} {w w8 : World} {p q cap : Nat} {left : Int} {D : DK} (h : RefAt nb w p q cap left D) (k : Only (fun _ => False) w w8) (hnb : nb < w.heap.size) {m : Nat} (hm : m < D.len.toNat) {l : List UInt8} (hl : l.length = 64) {v : Value} (hv : NewRow w.heap.size l v w8) :
    RefAt nb (w8.setCell ⟨q, m, none⟩ v) p q cap left { D with has := fun n => if n = (m : Int) then some l else D.has n } := by
  have h8 := h.only k (fun b e => e.elim) (fun e => e) (fun e => e)
  obtain ⟨cs, hq, hs⟩ := h8.row
  obtain ⟨b, c, rs, rfl, hc, hb, hr, hB⟩ := hv
  have hcap := h8.cap
  have o : Only (· = q) w8 (w8.setCell ⟨q, m, none⟩ (.slice (some ⟨b, 0, none⟩) 64 c)) := (Only.refl _ w8).put m _
  have hq2 : (w8.setCell ⟨q, m, none⟩ (.slice (some ⟨b, 0, none⟩) 64 c)).heap[q]? = some (.cells (cs.setIfInBounds m (.slice (some ⟨b, 0, none⟩) 64 c)) 22 (0, 0)) := heap_setCell_same w8 q m _ _ _ hq
  have hNR : NoRow nb (· = q) w8 := by
    rintro x rfl
    refine .inr fun cs2 hc2 => ?_
    rw [hq] at hc2
    injection hc2 with hc2
    injection hc2 with _ hc2
    revert hc2
    decide
  have hbq : b ≠ q := fun e => by
    subst e
    rw [hq] at hb
    injection hb with hb
    injection hb with _ hb
    revert hb
    decide
  refine ⟨o.keeps h8.cells h8.ne, h8.left, ⟨_, hq2, by rw [Array.size_setIfInBounds]; exact hs⟩, h8.lo, h8.hi, h8.cap, fun j hj => ?_⟩
  by_cases e : j = m
  · subst e
    refine ⟨.slice (some ⟨b, 0, none⟩) 64 c, ?_, .inr ⟨l, b, c, rs, ?_, hl, rfl, hc, o.keeps hb hbq, hr.only o hbq (lt_of_heap hb), by omega⟩⟩
    · rw [cellOf hq2, Array.getElem?_setIfInBounds_self_of_lt (by omega)]
    · show (if (j : Int) = (j : Int) then some l else D.has j) = some l
      rw [if_pos rfl]
  · obtain ⟨u, hu, he⟩ := h8.elem j hj
    refine ⟨u, ?_, ?_⟩
    · rw [cellOf hq2, Array.getElem?_setIfInBounds_ne (by omega), ← cellOf hq]
      exact hu
    · show ElemAt nb _ (if (j : Int) = (m : Int) then some l else D.has j) u
      rw [if_neg (by omega)]
      exact he.only o hNR
theorem gives_append {P : Program} {o : Oper} {a : Act} {w w2 : World} {R : Value → World → Prop} (s x : Operand) (t : TypeId) (vs vx : Value) {v' : Value} (hs : a.eval s = vs) (hx : a.eval x = vx)
    (ho : o.op = .call { callee := .builtin .append, args := #[s, x], argTypes := #[t, t] }) (e : (Builtin.append_ #[t, t] o.type #[vs, vx]).run P w = .ok v' w2) (hR : R v' w2) : gives P o a w R := by
  unfold gives execOp
  simp only [ho, resolve, invoke, builtin, Sem.run_bind, Sem.run_pure, Result.andThen_ok, List.map_toArray, List.map_cons, List.map_nil, hs, hx, e]
  exact hR
theorem v_row {B B' : Nat} {l : List UInt8} {v : Value} {w : World} (h : NewRow B' l v w) (hb : B ≤ B') : NewRow B l v w := by
  obtain ⟨b, c, cs, h1, h2, h3, h4, h5⟩ := h
  exact ⟨b, c, cs, h1, h2, h3, h4, Nat.le_trans hb h5⟩
theorem u8Info2 : (Try.prog.info? 5).map (fun i => (i.zero, i.size, i.bytes)) = some (some (.int .u8 0), 1, 1) := by kernel_rfl
/-- A row of nought cells is appended to: a new one. -/
theorem append_new (w : World) (b : Addr) (ad : Addr) (c : Nat) (l : List UInt8) (hl : l.length = 64) (hr : RowAt w ad l) (ty : TypeId) :
    ∃ v' w', (Builtin.append_ #[22, 22] ty #[.slice (some b) 0 0, .slice (some ad) 64 c]).run Try.prog w = .ok v' w' ∧ Only (fun _ => False) w w' ∧ NewRow w.heap.size l v' w' := by
  obtain ⟨i0, hi, hzz⟩ := Option.map_eq_some_iff.1 u8Info2
  simp only [Prod.mk.injEq] at hzz
  obtain ⟨hz0, hz1, hz2⟩ := hzz
  have e := run_append_grow (P := Try.prog) w 22 ty 5 i0 (.int .u8 0) Try.underlying22 hi hz0 b 0 0 [] (by simp) (fun j v h => by simp at h) ad 64 c (l.map bv) (by rw [List.length_map, hl, hz1]) (fun j v h => by
    rw [List.getElem?_map] at h
    cases hj : l[j]? with
    | none => rw [hj] at h; cases h
    | some x =>
      rw [hj] at h
      obtain rfl := Option.some.inj h
      exact hr j x hj) (by omega) (by omega) (by rw [hz2]; decide)
  refine ⟨_, _, e, ((Only.refl _ w).drew).alloc _, w.heap.size, _, _, rfl, ?_, heap_alloc_new _ _, ?_, Nat.le_refl _⟩
  · exact grownCap_ge w 64 0 _
  · intro j x hj
    rw [addr0, cellOf (show (w.drew.alloc (.cells (#[] ++ (l.map bv).toArray ++ Builtin.zeroCells (Value.int IntKind.u8 0).cells (grownCap w (0 + 64) 0 5 - (0 + 64))) 5)).heap[w.heap.size]? = _ from heap_alloc_new w.drew _)]
    have hlt := (List.getElem?_eq_some_iff.1 hj).1
    rw [Array.getElem?_append_left (by simp; omega)]
    simp [hj]
set_option maxHeartbeats 4000000 in
set_option maxRecDepth 100000 in
theorem refWrite_plain {nb : Nat} (w : World) (p q cap : Nat) (left : Int) (D : DK) (i : Int) (ad : Addr) (c : Nat) (l : List UInt8) (h : RefAt nb w p q cap left D) (hnb : nb < w.heap.size) (hc : D.code i = 0) (hl : l.length = 64) (hr : RowAt w ad l) (hf : D.fuse < 0) (hf' : D.fuse ≤ 9223372036854775807) (hw : 0 ≤ D.writes) (hw' : D.writes < 9223372036854775807) :
    Calls Try.prog 21 #[.pointer (some ⟨p, 0, none⟩), .int .i64 i, .slice (some ad) 64 c] w fun e w' => e = .returned (.int .i64 0) ∧ (∃ left', RefAt nb w' p q cap left' (D.wrote i l)) ∧ Only (Two p q) w w' := by
  have c0 := cellOf h.cells 0
  have c1 := cellOf h.cells 1
  have c2 := cellOf h.cells 2
  have c3 := cellOf h.cells 3
  have f3 := freeOf h.cells 3
  simp [refCells] at c0 c1 c2 c3
  obtain ⟨h1, h2, h3⟩ := code_zero hc
  rw [h1] at c1
  rw [show decide (0 ≤ D.fuse) = false from decide_eq_false (by omega)] at c2
  obtain ⟨m, rfl⟩ := Int.eq_ofNat_of_zero_le h2
  have hm : m < D.len.toNat := by omega
  have h4 : (m : Int) < ((D.len.toNat : Nat) : Int) := by omega
  have HD := Lib.hid h
  have HR := Lib.hid hr
  have HC := Lib.hid hc
  clear h hr hc h1
  go_enter Try.func21, Try.ntmps21
  go_upto_region 13 with (fail)
  have K1 : Hid (Only (· = p) w w) := Lib.hid (Only.refl _ w)
  have HD1 : Hid (RefAt nb w p q cap left D) := HD
  have HR1 := HR
  have HNB := Lib.hid hnb
  clear c0 c1 c2 c3 f3
  have hnb8 : nb < w.heap.size := HNB.out
  refine wp_region_growT 9 (Only (fun _ => False)) (fun | 5 => some (fun v _ => ∃ b, v = .slice (some b) 0 0) | 7 => some (NewRow w.heap.size l) | _ => none) (by kernel_rfl) (by kernel_rfl) (by kernel_rfl) (by kernel_rfl) (by kernel_rfl) (Only.refl _) (fun _ _ _ => Only.trans) ?_ ?_
  · intro i V hV v w1 w2 hr hv
    split at hV
    · cases hV
      exact hv
    · cases hV
      exact hv.grow hr
    · cases hV
  simp only [List.zipIdx_cons, List.zipIdx_nil, Nat.zero_add, Nat.reduceAdd, List.take_succ_cons, List.take_zero, List.drop_succ_cons, List.drop_zero]
  iterate 3 (refine grow_det ?_ rfl (fun w' => ?_) ?_; rotate_left 1; (unfold Runs; go_simp; rfl); try simp only [Act.put, List.setIfInBounds_toArray, List.set_cons_zero, List.set_cons_succ])
  refine grow_read (.slice (some ⟨q, 0, none⟩) D.len.toNat cap) rfl (fun w' hr hf => ?_) ?_
  · have h1 : w'.cell? ⟨p, 0, none⟩ = some (.slice (some ⟨q, 0, none⟩) D.len.toNat cap) := (hr.cell (lt_of_heap HD1.out.cells) (fun e => e)).trans ((cellOf HD1.out.cells 0).trans rfl)
    unfold Runs
    go_simp
  simp only [Act.put, List.setIfInBounds_toArray, List.set_cons_zero, List.set_cons_succ]
  iterate 1 (refine grow_det ?_ rfl (fun w' => ?_) ?_; rotate_left 1; (unfold Runs; go_simp; rfl); try simp only [Act.put, List.setIfInBounds_toArray, List.set_cons_zero, List.set_cons_succ])
  refine grow_pred _ rfl (fun w' hr hf => ?_) (fun v58 => ?_)
  · unfold Gives gives
    go_simp
    exact (Only.refl _ w').alloc _
  simp only [Act.put, List.setIfInBounds_toArray, List.set_cons_zero, List.set_cons_succ]
  iterate 1 (refine grow_det ?_ rfl (fun w' => ?_) ?_; rotate_left 1; (unfold Runs; go_simp; rfl); try simp only [Act.put, List.setIfInBounds_toArray, List.set_cons_zero, List.set_cons_succ])
  refine grow_pred _ rfl (fun w' hr hf => ?_) (fun v60 => ?_)
  · have h5 := hf 5 (by kernel_rfl)
    rw [upd_self] at h5
    obtain ⟨b5, rfl⟩ := h5
    have hra : RowAt w' ad l := (show RowAt w.drew ad l from HR1.out).only hr (fun e => e) (HR1.out.lt (by omega))
    obtain ⟨v', w2, e, o2, n2⟩ := append_new w' b5 ad c l hl hra 22
    unfold Gives
    rw [if_pos (by kernel_rfl)]
    exact gives_append (.tmp 58) (.tmp 59) 22 _ _ rfl rfl rfl e ⟨o2, v_row n2 hr.size⟩
  simp only [Act.put, List.setIfInBounds_toArray, List.set_cons_zero, List.set_cons_succ]
  iterate 1 (refine grow_det ?_ rfl (fun w' => ?_) ?_; rotate_left 1; (unfold Runs; go_simp; rfl); try simp only [Act.put, List.setIfInBounds_toArray, List.set_cons_zero, List.set_cons_succ])
  refine grow_end (fun w8 hr hf => ?_)
  have h7 := hf 7
  rw [upd_self] at h7
  clear hf
  have hr8 : Only (fun _ => False) w w8 := ⟨hr.os, hr.tape, hr.output, hr.size, fun k a b => hr.block k a b⟩
  have HN := Lib.hid h7
  have HR8 := Lib.hid hr8
  have hwr := HD1.out.wrote hr8 hnb8 hm hl h7
  have HWR := Lib.hid hwr
  have hqc : (w8.cell? ⟨q, m, none⟩).isSome = true := by
    obtain ⟨v, hv, -⟩ := (HD1.out.only hr8 (fun b e => e.elim) (fun e => e) (fun e => e)).elem m hm
    rw [hv]; rfl
  obtain ⟨vq, hqc⟩ := Option.isSome_iff_exists.1 hqc
  have hqf : w8.frozen? ⟨q, m, none⟩ = false := by
    obtain ⟨cs, hq, -⟩ := (HD1.out.only hr8 (fun b e => e.elim) (fun e => e) (fun e => e)).row
    exact freeOf hq m
  have p4 := cellOf hwr.cells 4
  have g4 := freeOf hwr.cells 4
  simp [refCells] at p4
  have hw1 : wrap64 (D.writes + 1) = D.writes + 1 := by unfold wrap64; omega
  clear h7 hr hr8 hwr
  obtain ⟨b7, c7, cs7, rfl, -⟩ := HN.out
  go_wp2
  go_ret
  have hfu : (D.wrote (m : Int) l).fuse = D.fuse := by unfold DK.wrote; dsimp only; rw [if_neg (by omega)]
  refine ⟨rfl, ⟨left, ?_⟩, ?_⟩
  · refine HWR.out.turn (D.wrote (m : Int) l) left rfl rfl ((Only.refl _ _).put 4 _) ?_ (fun h => ?_)
    · rw [heap_setCell_same _ p 4 _ _ _ HWR.out.cells]
      unfold refCells
      rw [hfu]
      rfl
    · rw [hfu] at h; omega
  · refine Only.setCell (Only.setCell ?_ (p := ⟨q, m, none⟩) (Or.inr rfl) _) (p := ⟨p, 4, none⟩) (Or.inl rfl) _
    exact (K1.out.mono (fun _ _ h => Or.inl h)).trans (HR8.out.mono (fun _ _ h => h.elim))
set_option maxHeartbeats 4000000 in
set_option maxRecDepth 100000 in
theorem refWrite_burns {nb : Nat} (w : World) (p q cap : Nat) (left : Int) (D : DK) (i : Int) (ad : Addr) (c : Nat) (l : List UInt8) (h : RefAt nb w p q cap left D) (hnb : nb < w.heap.size) (hc : D.code i = 0) (hl : l.length = 64) (hr : RowAt w ad l) (hf : 0 < D.fuse) (hf' : D.fuse ≤ 9223372036854775807) (hw : 0 ≤ D.writes) (hw' : D.writes < 9223372036854775807) :
    Calls Try.prog 21 #[.pointer (some ⟨p, 0, none⟩), .int .i64 i, .slice (some ad) 64 c] w fun e w' => e = .returned (.int .i64 0) ∧ (∃ left', RefAt nb w' p q cap left' (D.wrote i l)) ∧ Only (Two p q) w w' := by
  have c0 := cellOf h.cells 0
  have c1 := cellOf h.cells 1
  have c2 := cellOf h.cells 2
  have c3 := cellOf h.cells 3
  have f3 := freeOf h.cells 3
  simp [refCells] at c0 c1 c2 c3
  obtain ⟨h1, h2, h3⟩ := code_zero hc
  rw [h1] at c1
  have hle := h.left (by omega)
  rw [hle] at c3
  rw [show decide (0 ≤ D.fuse) = true from decide_eq_true (by omega)] at c2
  have hz : ¬ (D.fuse = 0) := by omega
  obtain ⟨m, rfl⟩ := Int.eq_ofNat_of_zero_le h2
  have hm : m < D.len.toNat := by omega
  have h4 : (m : Int) < ((D.len.toNat : Nat) : Int) := by omega
  have HD := Lib.hid h
  have HR := Lib.hid hr
  have HC := Lib.hid hc
  clear h hr hc h1
  go_enter Try.func21, Try.ntmps21
  go_upto_region 13 with (fail)
  have k1 : Only (· = p) w (w.setCell ⟨p, 3, none⟩ (.int .i64 (D.fuse - 1))) := (Only.refl _ w).put 3 _
  have hD1 : RefAt nb (w.setCell ⟨p, 3, none⟩ (.int .i64 (D.fuse - 1))) p q cap (D.fuse - 1) { D with fuse := D.fuse - 1 } := HD.out.turn { D with fuse := D.fuse - 1 } (D.fuse - 1) rfl rfl k1 (by
    rw [heap_setCell_same w p 3 _ _ _ HD.out.cells]
    unfold refCells
    rw [show decide (0 ≤ D.fuse) = true from decide_eq_true (by omega)]
    dsimp only
    rw [show decide (0 ≤ D.fuse - 1) = true from decide_eq_true (by omega)]
    rfl) (fun _ => rfl)
  have hR1 : RowAt (w.setCell ⟨p, 3, none⟩ (.int .i64 (D.fuse - 1))) ad l := HR.out.only k1 (HD.out.row_ne HR.out (by omega)) (HR.out.lt (by omega))
  have HNB := Lib.hid (Nat.lt_of_lt_of_le hnb k1.size)
  have K1 := Lib.hid k1
  have HD1 := Lib.hid hD1
  have HR1 := Lib.hid hR1
  clear k1 hD1 hR1
  generalize hw1 : w.setCell ⟨p, 3, none⟩ (.int .i64 (D.fuse - 1)) = w1 at *
  clear c0 c1 c2 c3 f3 hw1
  have hnb8 : nb < w1.heap.size := HNB.out
  refine wp_region_growT 9 (Only (fun _ => False)) (fun | 5 => some (fun v _ => ∃ b, v = .slice (some b) 0 0) | 7 => some (NewRow w1.heap.size l) | _ => none) (by kernel_rfl) (by kernel_rfl) (by kernel_rfl) (by kernel_rfl) (by kernel_rfl) (Only.refl _) (fun _ _ _ => Only.trans) ?_ ?_
  · intro i V hV v w1 w2 hr hv
    split at hV
    · cases hV
      exact hv
    · cases hV
      exact hv.grow hr
    · cases hV
  simp only [List.zipIdx_cons, List.zipIdx_nil, Nat.zero_add, Nat.reduceAdd, List.take_succ_cons, List.take_zero, List.drop_succ_cons, List.drop_zero]
  iterate 3 (refine grow_det ?_ rfl (fun w' => ?_) ?_; rotate_left 1; (unfold Runs; go_simp; rfl); try simp only [Act.put, List.setIfInBounds_toArray, List.set_cons_zero, List.set_cons_succ])
  refine grow_read (.slice (some ⟨q, 0, none⟩) D.len.toNat cap) rfl (fun w' hr hf => ?_) ?_
  · have h1 : w'.cell? ⟨p, 0, none⟩ = some (.slice (some ⟨q, 0, none⟩) D.len.toNat cap) := (hr.cell (lt_of_heap HD1.out.cells) (fun e => e)).trans ((cellOf HD1.out.cells 0).trans rfl)
    unfold Runs
    go_simp
  simp only [Act.put, List.setIfInBounds_toArray, List.set_cons_zero, List.set_cons_succ]
  iterate 1 (refine grow_det ?_ rfl (fun w' => ?_) ?_; rotate_left 1; (unfold Runs; go_simp; rfl); try simp only [Act.put, List.setIfInBounds_toArray, List.set_cons_zero, List.set_cons_succ])
  refine grow_pred _ rfl (fun w' hr hf => ?_) (fun v58 => ?_)
  · unfold Gives gives
    go_simp
    exact (Only.refl _ w').alloc _
  simp only [Act.put, List.setIfInBounds_toArray, List.set_cons_zero, List.set_cons_succ]
  iterate 1 (refine grow_det ?_ rfl (fun w' => ?_) ?_; rotate_left 1; (unfold Runs; go_simp; rfl); try simp only [Act.put, List.setIfInBounds_toArray, List.set_cons_zero, List.set_cons_succ])
  refine grow_pred _ rfl (fun w' hr hf => ?_) (fun v60 => ?_)
  · have h5 := hf 5 (by kernel_rfl)
    rw [upd_self] at h5
    obtain ⟨b5, rfl⟩ := h5
    have hra : RowAt w' ad l := (show RowAt w1.drew ad l from HR1.out).only hr (fun e => e) (HR1.out.lt (by omega))
    obtain ⟨v', w2, e, o2, n2⟩ := append_new w' b5 ad c l hl hra 22
    unfold Gives
    rw [if_pos (by kernel_rfl)]
    exact gives_append (.tmp 58) (.tmp 59) 22 _ _ rfl rfl rfl e ⟨o2, v_row n2 hr.size⟩
  simp only [Act.put, List.setIfInBounds_toArray, List.set_cons_zero, List.set_cons_succ]
  iterate 1 (refine grow_det ?_ rfl (fun w' => ?_) ?_; rotate_left 1; (unfold Runs; go_simp; rfl); try simp only [Act.put, List.setIfInBounds_toArray, List.set_cons_zero, List.set_cons_succ])
  refine grow_end (fun w8 hr hf => ?_)
  have h7 := hf 7
  rw [upd_self] at h7
  clear hf
  have hr8 : Only (fun _ => False) w1 w8 := ⟨hr.os, hr.tape, hr.output, hr.size, fun k a b => hr.block k a b⟩
  have HN := Lib.hid h7
  have HR8 := Lib.hid hr8
  have hwr := HD1.out.wrote hr8 hnb8 hm hl h7
  have HWR := Lib.hid hwr
  have hqc : (w8.cell? ⟨q, m, none⟩).isSome = true := by
    obtain ⟨v, hv, -⟩ := (HD1.out.only hr8 (fun b e => e.elim) (fun e => e) (fun e => e)).elem m hm
    rw [hv]; rfl
  obtain ⟨vq, hqc⟩ := Option.isSome_iff_exists.1 hqc
  have hqf : w8.frozen? ⟨q, m, none⟩ = false := by
    obtain ⟨cs, hq, -⟩ := (HD1.out.only hr8 (fun b e => e.elim) (fun e => e) (fun e => e)).row
    exact freeOf hq m
  have p4 := cellOf hwr.cells 4
  have g4 := freeOf hwr.cells 4
  simp [refCells] at p4
  have hw1 : wrap64 (D.writes + 1) = D.writes + 1 := by unfold wrap64; omega
  clear h7 hr hr8 hwr
  obtain ⟨b7, c7, cs7, rfl, -⟩ := HN.out
  go_wp2
  go_ret
  have hfu : (D.wrote (m : Int) l).fuse = D.fuse - 1 := by unfold DK.wrote; dsimp only; rw [if_pos hf]
  refine ⟨rfl, ⟨(D.fuse - 1), ?_⟩, ?_⟩
  · refine HWR.out.turn (D.wrote (m : Int) l) (D.fuse - 1) rfl rfl ((Only.refl _ _).put 4 _) ?_ (fun h => ?_)
    · rw [heap_setCell_same _ p 4 _ _ _ HWR.out.cells]
      unfold refCells
      rw [hfu]
      rfl
    · rw [hfu]
  · refine Only.setCell (Only.setCell ?_ (p := ⟨q, m, none⟩) (Or.inr rfl) _) (p := ⟨p, 4, none⟩) (Or.inl rfl) _
    exact (K1.out.mono (fun _ _ h => Or.inl h)).trans (HR8.out.mono (fun _ _ h => h.elim))
/-- Write, whatever is asked. -/
theorem refWrite_calls {nb : Nat} (w : World) (p q cap : Nat) (left : Int) (D : DK) (i : Int) (a : Option Addr) (l : List UInt8) (n c : Nat) (hn : l.length = n) (h : RefAt nb w p q cap left D) (hnb : nb < w.heap.size) (hr : SliceAt w a l) (hf : D.fine) :
    Calls Try.prog 21 #[.pointer (some ⟨p, 0, none⟩), .int .i64 i, .slice a n c] w fun e w' => e = .returned (.int .i64 (D.write i l).2) ∧ (∃ left', RefAt nb w' p q cap left' (D.write i l).1) ∧ Only (Two p q) w w' := by
  subst hn
  unfold DK.write
  by_cases hc : D.code i = 0
  · rw [if_neg (by simpa using hc)]
    by_cases hl : l.length = 64
    · rw [if_neg (by simpa using hl)]
      obtain ⟨ad, rfl⟩ := hr.there (by intro e; rw [e] at hl; cases hl)
      rw [hl]
      by_cases hz : D.fuse = 0
      · rw [if_pos hz]
        exact (refWrite_blown w p q cap left D i (some ad) c h hc hz).mono fun e w' ⟨he, hd, ho⟩ => ⟨he, ⟨_, hd⟩, ho.mono (fun _ _ => Or.inl)⟩
      · rw [if_neg hz]
        by_cases hp : 0 < D.fuse
        · exact refWrite_burns w p q cap left D i ad c l h hnb hc hl (hr.row ad rfl) hp hf.fuse hf.lo hf.hi
        · exact refWrite_plain w p q cap left D i ad c l h hnb hc hl (hr.row ad rfl) (by omega) hf.fuse hf.lo hf.hi
    · rw [if_pos hl]
      exact (refWrite_bytes w p q cap left D i a l.length c h hc hl).mono fun e w' ⟨he, hd⟩ => by subst hd; exact ⟨he, ⟨_, h⟩, Only.refl _ w⟩
  · rw [if_pos hc]
    exact (refWrite_no w p q cap left D i _ h hc).mono fun e w' ⟨he, hd⟩ => by subst hd; exact ⟨he, ⟨_, h⟩, Only.refl _ w⟩
end Go.Proofs.Ytlieijnhlfedmaa
