/- The document's disk in memory, told by the same abstract disk; New, Fuse, Boot, Clone. -/
import Derived.Test.YtlieijnhlfedmaaDiskLaw
import Derived.Laws.AppendOwn
namespace Go.Proofs.Ytlieijnhlfedmaa
open Go.RowKit

/-- What a place of the row of blocks has: nothing, or a row of 64 bytes, not block nb. -/
def ElemAt (nb : Nat) (w : World) (h : Option (List UInt8)) (v : Value) : Prop :=
  (h = none ∧ v = .slice none 0 0) ∨ ∃ (l : List UInt8) (b c : Nat) (cs : Array Value), h = some l ∧ l.length = 64 ∧ v = .slice (some ⟨b, 0, none⟩) 64 c ∧ 64 ≤ c ∧ w.heap[b]? = some (.cells cs 5 (0, 0)) ∧ RowAt w ⟨b, 0, none⟩ l ∧ b ≠ nb
def refCells (D : DK) (q cap : Nat) (left : Int) : Array Value := #[.slice (some ⟨q, 0, none⟩) D.len.toNat cap, .bool D.off, .bool (decide (0 ≤ D.fuse)), .int .i64 left, .int .i64 D.writes]
structure RefAt (nb : Nat) (w : World) (p q cap : Nat) (left : Int) (D : DK) : Prop where
  cells : w.heap[p]? = some (.cells (refCells D q cap left) 59 (0, 0))
  left : 0 ≤ D.fuse → left = D.fuse
  row : ∃ cs : Array Value, w.heap[q]? = some (.cells cs 22 (0, 0)) ∧ cs.size = cap
  lo : 1 ≤ D.len
  hi : D.len ≤ 4096
  cap : D.len.toNat ≤ cap
  elem : ∀ i : Nat, i < D.len.toNat → ∃ v, w.cell? ⟨q, i, none⟩ = some v ∧ ElemAt nb w (D.has i) v
theorem RefAt.ne {nb : Nat} {w : World} {p q cap : Nat} {left : Int} {D : DK} (h : RefAt nb w p q cap left D) : p ≠ q := by
  rintro rfl
  obtain ⟨cs, hq, _⟩ := h.row
  rw [h.cells] at hq
  injection hq with hq
  injection hq with _ hq
  revert hq
  decide
/-- A set of blocks none of which is a row of bytes, but nb. -/
def NoRow (nb : Nat) (S : Nat → Prop) (w : World) : Prop := ∀ b, S b → b = nb ∨ ∀ cs, w.heap[b]? ≠ some (.cells cs 5 (0, 0))
theorem ElemAt.only {nb : Nat} {w w' : World} {h : Option (List UInt8)} {v : Value} {S : Nat → Prop} (e : ElemAt nb w h v) (k : Only S w w') (hS : NoRow nb S w) : ElemAt nb w' h v := by
  rcases e with e | ⟨l, b, c, cs, h1, h2, h3, h4, h5, h6, h7⟩
  · exact .inl e
  · have hs : ¬ S b := fun s => by
      rcases hS b s with e | e
      · exact h7 e
      · exact e cs h5
    exact .inr ⟨l, b, c, cs, h1, h2, h3, h4, k.keeps h5 hs, h6.only k hs (lt_of_heap h5), h7⟩
theorem RefAt.only {nb : Nat} {w w' : World} {p q cap : Nat} {left : Int} {D : DK} {S : Nat → Prop} (h : RefAt nb w p q cap left D) (k : Only S w w') (hS : NoRow nb S w) (hp : ¬ S p) (hq : ¬ S q) : RefAt nb w' p q cap left D := by
  obtain ⟨cs, h1, h2⟩ := h.row
  refine ⟨k.keeps h.cells hp, h.left, ⟨cs, k.keeps h1 hq, h2⟩, h.lo, h.hi, h.cap, fun i hi => ?_⟩
  obtain ⟨v, hv, he⟩ := h.elem i hi
  exact ⟨v, (k.cell (lt_of_heap h1) hq).trans hv, he.only k hS⟩
/-- Another block that no row is. -/
theorem RefAt.fresh {nb : Nat} {w : World} {p q cap : Nat} {left : Int} {D : DK} (h : RefAt nb w p q cap left D) (n : Nat) (hn : w.heap.size ≤ n) : RefAt n w p q cap left D := by
  refine ⟨h.cells, h.left, h.row, h.lo, h.hi, h.cap, fun i hi => ?_⟩
  obtain ⟨v, hv, he⟩ := h.elem i hi
  refine ⟨v, hv, ?_⟩
  rcases he with e | ⟨l, b, c, cs, h1, h2, h3, h4, h5, h6, h7⟩
  · exact .inl e
  · exact .inr ⟨l, b, c, cs, h1, h2, h3, h4, h5, h6, by have := lt_of_heap h5; omega⟩
/-- The block p is written: the fields but the row. -/
theorem RefAt.turn {nb : Nat} {w w' : World} {p q cap : Nat} {left : Int} {D : DK} (h : RefAt nb w p q cap left D) (D' : DK) (left' : Int) (hh : D'.has = D.has) (hlen : D'.len = D.len) (k : Only (· = p) w w')
    (hc : w'.heap[p]? = some (.cells (refCells D' q cap left') 59 (0, 0))) (hl : 0 ≤ D'.fuse → left' = D'.fuse) : RefAt nb w' p q cap left' D' := by
  obtain ⟨cs, h1, h2⟩ := h.row
  have hne := h.ne
  refine ⟨hc, hl, ⟨cs, k.keeps h1 (fun e => hne e.symm), h2⟩, by rw [hlen]; exact h.lo, by rw [hlen]; exact h.hi, by rw [hlen]; exact h.cap, fun i hi => ?_⟩
  rw [hlen] at hi
  obtain ⟨v, hv, he⟩ := h.elem i hi
  rw [hh]
  refine ⟨v, (k.cell (lt_of_heap h1) (fun e => hne e.symm)).trans hv, he.only k (fun b e => .inr fun cs2 hc2 => ?_)⟩
  subst e
  rw [h.cells] at hc2
  injection hc2 with hc2
  injection hc2 with _ hc2
  revert hc2
  decide
set_option maxHeartbeats 400000 in
theorem refBoot_calls {nb : Nat} (w : World) (p q cap : Nat) (left : Int) (D : DK) (h : RefAt nb w p q cap left D) :
    Calls Try.prog 23 #[.pointer (some ⟨p, 0, none⟩)] w fun e w' => e = .returned (.tuple #[]) ∧ RefAt nb w' p q cap left D.booted ∧ Only (· = p) w w' := by
  have c1 := cellOf h.cells 1
  have c2 := cellOf h.cells 2
  have f1 := freeOf h.cells 1
  have f2 := freeOf h.cells 2
  have hcs := Lib.hid h.cells
  simp [refCells] at c1 c2
  have HD := Lib.hid h
  clear h
  go_enter Try.func23, Try.ntmps23
  go_wp2
  go_end0
  have k : Only (· = p) w ((w.setCell ⟨p, 1, none⟩ (.bool false)).setCell ⟨p, 2, none⟩ (.bool false)) := ((Only.refl _ w).put 1 _).put 2 _
  have e := heap_setCell_same (w.setCell ⟨p, 1, none⟩ (.bool false)) p 2 _ _ (.bool false) (heap_setCell_same w p 1 _ _ (.bool false) hcs.out)
  exact ⟨rfl, HD.out.turn _ left rfl rfl k (by rw [e]; rfl) (by intro h; simp [DK.booted] at h), k⟩
set_option maxHeartbeats 800000 in
theorem refFuse_calls {nb : Nat} (w : World) (p q cap : Nat) (left : Int) (D : DK) (i : Int) (h : RefAt nb w p q cap left D) :
    Calls Try.prog 22 #[.pointer (some ⟨p, 0, none⟩), .int .i64 i] w fun e w' => e = .returned (.tuple #[]) ∧ (∃ left', RefAt nb w' p q cap left' (D.fused i)) ∧ Only (· = p) w w' := by
  obtain ⟨len, off, fuse, n, has⟩ := D
  have c1 := cellOf h.cells 1
  have c2 := cellOf h.cells 2
  have c3 := cellOf h.cells 3
  have f2 := freeOf h.cells 2
  have f3 := freeOf h.cells 3
  have hcs := Lib.hid h.cells
  simp [refCells] at c1 c2 c3
  have HD := Lib.hid h
  clear h
  obtain ⟨F, hF⟩ : ∃ F, F = (⟨len, off, fuse, n, has⟩ : DK).fused i := ⟨_, rfl⟩
  rw [← hF]
  have HF := Lib.hid hF
  clear hF
  cases off
  · go_enter Try.func22, Try.ntmps22
    go_wp2
    go_end0
    have k : Only (· = p) w ((w.setCell ⟨p, 2, none⟩ (.bool (decide (0 ≤ i)))).setCell ⟨p, 3, none⟩ (.int .i64 i)) := ((Only.refl _ w).put 2 _).put 3 _
    have e := heap_setCell_same (w.setCell ⟨p, 2, none⟩ (.bool (decide (0 ≤ i)))) p 3 _ _ (.int .i64 i) (heap_setCell_same w p 2 _ _ (.bool (decide (0 ≤ i))) hcs.out)
    refine ⟨rfl, ⟨i, ?_⟩, k⟩
    have hf1 : F = ⟨len, false, if i < -1 then -1 else i, n, has⟩ := by rw [HF.out]; rfl
    rw [hf1]
    have hif : decide (0 ≤ (if i < -1 then -1 else i)) = decide (0 ≤ i) := by
      rw [decide_eq_decide]
      split <;> omega
    exact HD.out.turn _ i rfl rfl k (by rw [e]; unfold refCells; dsimp only; rw [hif]; rfl) (by intro h; dsimp only at h ⊢; split <;> (split at h <;> omega))
  · go_enter Try.func22, Try.ntmps22
    go_wp2
    go_end0
    have hf1 : F = ⟨len, true, fuse, n, has⟩ := by rw [HF.out]; rfl
    rw [hf1]
    exact ⟨rfl, ⟨left, HD.out⟩, Only.refl _ w⟩
set_option maxHeartbeats 400000 in
theorem refNew_refuses (w : World) (n : Int) (h : n < 1 ∨ 4096 < n) :
    Calls Try.prog 19 #[.int .i64 n] w fun e w' => e = .returned (.tuple #[.pointer none, .int .i64 1]) ∧ w = w' := by
  rcases h with h | h
  · go_enter Try.func19, Try.ntmps19
    go_wp2
    go_ret2
    exact ⟨rfl, rfl⟩
  · have h' : ¬ n < 1 := by omega
    go_enter Try.func19, Try.ntmps19
    go_wp2
    go_ret2
    exact ⟨rfl, rfl⟩
theorem rowsInfo : (Try.prog.info? 22).map (fun i => (i.zero, i.size, i.bytes)) = some (some (.slice none 0 0), 1, 24) := by kernel_rfl
theorem made_rows (n : Nat) : madeCells (Value.slice none 0 0).cells n = (List.replicate n (Value.slice none 0 0)).toArray := by
  apply Array.ext'
  apply List.ext_getElem
  · simp [madeCells, Value.cells]
  · intro i h1 h2
    simp [madeCells, Value.cells, Nat.mod_one]
theorem run_make_rows (w : World) (n : Nat) (hn : n ≤ 4096) :
    (Instr.makeSlice 57 (.int .i64 (n : Int)) (.int .i64 (n : Int))).run Try.prog w = .ok (.slice (some ⟨w.heap.size, 0, none⟩) n n) (w.alloc (.cells (List.replicate n (Value.slice none 0 0)).toArray 22)) := by
  obtain ⟨i0, hi, hzz⟩ := Option.map_eq_some_iff.1 rowsInfo
  simp only [Prod.mk.injEq] at hzz
  obtain ⟨hz0, hz1, hz2⟩ := hzz
  have := run_makeSlice (P := Try.prog) w 57 22 i0 (.slice none 0 0) Try.underlying57 hi hz0 .i64 .i64 (n : Int) (n : Int) (by omega) (by omega) (by rw [hz1]; simp; omega) (by rw [hz2]; omega) (by omega)
  rw [this, hz1, Int.toNat_natCast, Nat.mul_one, made_rows]
set_option maxHeartbeats 400000 in
theorem refNew_calls (w : World) (n : Nat) (h1 : 1 ≤ n) (h2 : n ≤ 4096) :
    Calls Try.prog 19 #[.int .i64 (n : Int)] w fun e w' => e = .returned (.tuple #[.pointer (some ⟨w.heap.size + 1, 0, none⟩), .int .i64 0]) ∧ RefAt w'.heap.size w' (w.heap.size + 1) w.heap.size n 0 ⟨n, false, -1, 0, fun _ => none⟩ ∧ Only (fun _ => False) w w' := by
  have hmk := fun w => run_make_rows w n h2
  go_enter Try.func19, Try.ntmps19
  go_wp2
  go_ret2
  refine ⟨rfl, ⟨?_, fun h => ?_, ⟨Array.replicate n (Value.slice none 0 0), ?_, ?_⟩, ?_, ?_, ?_, fun i hi => ?_⟩, ((Only.refl _ w).alloc _).alloc _⟩
  · rw [heap_alloc2_new]; rfl
  · exact absurd (show (0 : Int) ≤ -1 from h) (by decide)
  · rw [heap_alloc2_old]
  · simp
  · show (1 : Int) ≤ n; omega
  · show (n : Int) ≤ 4096; omega
  · simp
  · refine ⟨.slice none 0 0, ?_, .inl ⟨rfl, rfl⟩⟩
    rw [cellOf (heap_alloc2_old _ _ _)]
    have hi : i < n := by simpa using hi
    simp [hi]
theorem ElemAt.one {nb : Nat} {w : World} {h : Option (List UInt8)} {v : Value} (e : ElemAt nb w h v) : v.oneCell' = true := by
  rcases e with ⟨_, rfl⟩ | ⟨_, _, _, _, _, _, rfl, _⟩ <;> rfl
theorem RefAt.vals {nb : Nat} {w : World} {p q cap : Nat} {left : Int} {D : DK} (h : RefAt nb w p q cap left D) : ∃ vs : List Value, vs.length = D.len.toNat ∧ ∀ (i : Nat) (v : Value), vs[i]? = some v → w.cell? ⟨q, i, none⟩ = some v ∧ ElemAt nb w (D.has i) v := by
  obtain ⟨cs, h1, h2⟩ := h.row
  have hc := h.cap
  refine ⟨cs.toList.take D.len.toNat, by rw [List.length_take, Array.length_toList]; omega, fun i v hv => ?_⟩
  have hi : i < D.len.toNat := by
    have := (List.getElem?_eq_some_iff.1 hv).1
    rw [List.length_take] at this
    omega
  rw [List.getElem?_take, if_pos hi, Array.getElem?_toList] at hv
  obtain ⟨u, hu, he⟩ := h.elem i hi
  have hcell : w.cell? ⟨q, i, none⟩ = some v := (cellOf h1 i).trans hv
  rw [hcell] at hu
  obtain rfl := Option.some.inj hu
  exact ⟨hcell, he⟩
theorem gate_dst_ {P : Program} {ops : Array Oper} {o : Oper} {rest : List Oper} {a : Act} {W : World} {Q : Exit → Act → World → Prop} {N : Tmp} (_hd : o.dst = some N) (h : wpList P ops Q (o :: rest) a W) : wpList P ops Q (o :: rest) a W := h
theorem unhid_ {p : Prop} (h : Hid p) : p := h.out
theorem addr0 (q j : Nat) : (⟨q, 0, none⟩ : Addr).add j = ⟨q, j, none⟩ := by unfold Addr.add; split <;> simp_all
set_option maxHeartbeats 2000000 in
theorem refClone_calls {nb : Nat} (w : World) (p q cap : Nat) (left : Int) (D : DK) (h : RefAt nb w p q cap left D) :
    Calls Try.prog 20 #[.pointer (some ⟨p, 0, none⟩)] w fun e w' => ∃ p' q' cap', e = .returned (.pointer (some ⟨p', 0, none⟩)) ∧ RefAt nb w' p' q' cap' left D ∧ Only (fun _ => False) w w' ∧ w.heap.size ≤ p' ∧ w.heap.size ≤ q' := by
  have c0 := cellOf h.cells 0
  have c1 := cellOf h.cells 1
  have c2 := cellOf h.cells 2
  have c3 := cellOf h.cells 3
  have c4 := cellOf h.cells 4
  simp [refCells] at c0 c1 c2 c3 c4
  have HD := Lib.hid h
  obtain ⟨i0, hi, hzz⟩ := Option.map_eq_some_iff.1 rowsInfo
  simp only [Prod.mk.injEq] at hzz
  have HI := Lib.hid (And.intro hi hzz)
  clear h hi hzz
  go_enter Try.func20, Try.ntmps20
  go_upto_region 2 with (fail)
  have hN : (w.alloc (.cells (refCells D q cap left) 59)).heap[w.heap.size]? = some (.cells (refCells D q cap left) 59 (0, 0)) := heap_alloc_new _ _
  have hO : Only (fun _ => False) w (w.alloc (.cells (refCells D q cap left) 59)) := (Only.refl _ w).alloc _
  have hS : (w.alloc (.cells (refCells D q cap left) 59)).heap.size = w.heap.size + 1 := heap_alloc_size _ _
  generalize hw2 : w.alloc (.cells (refCells D q cap left) 59) = w2 at hN hO hS
  rw [show w.alloc (.cells #[.slice (some ⟨q, 0, none⟩) D.len.toNat cap, .bool D.off, .bool (decide (0 ≤ D.fuse)), .int .i64 left, .int .i64 D.writes] 59) = w2 from hw2]
  clear hw2
  have HD2 := Lib.hid (HD.out.only hO (fun b e => e.elim) (fun e => e) (fun e => e))
  have hlen : D.len.toNat ≤ 4096 := by have := HD.out.hi; omega
  have hpos : 1 ≤ D.len.toNat := by have := HD.out.lo; omega
  obtain ⟨vs, hvl, hvs⟩ := HD2.out.vals
  have HV := Lib.hid hvs
  have HN := Lib.hid hN
  have HO := Lib.hid hO
  have hcap := HD.out.cap
  have HC := Lib.hid hcap
  clear hvs hN hO c0 c1 c2 c3 c4 hcap
  have c0 : ∀ o, (w2.alloc o).cell? ⟨p, 0, none⟩ = some (.slice (some ⟨q, 0, none⟩) D.len.toNat cap) := fun o => (((Only.refl (fun _ => False) w2).alloc o).cell (lt_of_heap HD2.out.cells) (fun e => e)).trans (by rw [cellOf HD2.out.cells]; rfl)
  have HS := Lib.hid hS
  clear hS
  go_wp2_with (at_builtin; refine unhid_ ?_)
  refine Lib.hid ?_
  refine wpList_append_own _ rfl (.tmp 7) (.tmp 11) 57 rfl w2.heap.size 22 i0 (.slice none 0 0) 1 24 Try.underlying57 HI.out.1 HI.out.2.1 HI.out.2.2.1 HI.out.2.2.2 rfl (by decide) _ _ _ rfl (World.ownsRow_made w2 #[] 0 (Nat.le_refl _) (Nat.zero_le _) (by simp)) ⟨q, 0, none⟩ D.len.toNat cap vs rfl ?qc1 ?qc2 ?qc3 ?qc4 ?qc5 ?qc6 ?_
  case qc1 => rw [hvl, Nat.mul_one]
  case qc2 =>
    intro j u hj
    rw [addr0]
    obtain ⟨cs, hq, _⟩ := HD2.out.row
    exact (((Only.refl (fun _ => False) w2).alloc _).cell (lt_of_heap hq) (fun e => e)).trans (HV.out j u hj).1
  case qc3 =>
    intro u hu
    obtain ⟨j, hj, rfl⟩ := List.getElem_of_mem hu
    exact (HV.out j _ (List.getElem?_eq_getElem hj)).2.one
  case qc4 => unfold maxLen; omega
  case qc5 => omega
  case qc6 => rw [heap_alloc_size]; omega
  intro v' w3 hown hgrow hnil
  rw [Nat.zero_add, List.nil_append] at hown
  have hO3 : Only (fun _ => False) w2 w3 := ((Only.refl _ w2).alloc _).grown hgrow (fun k hk => .inr (by cases hk; exact Nat.le_refl _))
  obtain ⟨-, ⟨rfl, e0⟩ | ⟨g, cp, cur, rfl, hg0, hg1, hg2, hg3, hg4, hg5⟩⟩ := hown
  · omega
  have hN3 := hO3.keeps HN.out (fun e => e)
  have hc3 := cellOf hN3 0
  have hf3 := freeOf hN3 0
  simp [refCells] at hc3
  have HN3 := Lib.hid hN3
  have HO3 := Lib.hid (HO.out.trans hO3)
  have HO23 := Lib.hid hO3
  have HG := Lib.hid (And.intro hg0 (And.intro hg1 (And.intro hg2 (And.intro hg4 hg5))))
  clear hN3 hO3 hg0 hg1 hg2 hg3 hg4 hg5 hgrow hnil
  go_wp2
  go_ret
  obtain ⟨hg0, hg1, hg2, hg4, hg5⟩ := HG.out
  have hgn : g ≠ w.heap.size := by have := HS.out; omega
  have hO4 : Only (fun _ => False) w (w3.setCell ⟨w.heap.size, 0, none⟩ (.slice (some ⟨g, 0, none⟩) D.len.toNat cp)) := HO3.out.setCell_new (Nat.le_refl _) _
  have hfar : (w3.setCell ⟨w.heap.size, 0, none⟩ (.slice (some ⟨g, 0, none⟩) D.len.toNat cp)).heap[g]? = some (.cells cur 22 (0, 0)) := ((Only.refl (· = w.heap.size) w3).put 0 _).keeps hg1 hgn
  refine ⟨w.heap.size, g, cp, rfl, ⟨?_, HD.out.left, ⟨cur, hfar, by omega⟩, HD.out.lo, HD.out.hi, hg2, fun i hi => ?_⟩, hO4, Nat.le_refl _, by have := HS.out; omega⟩
  · rw [heap_setCell_same w3 w.heap.size 0 _ _ _ HN3.out]
    rfl
  · have hv : vs[i]? = some (vs[i]'(by omega)) := List.getElem?_eq_getElem (by omega)
    refine ⟨vs[i]'(by omega), ?_, ((HV.out i _ hv).2).only (S := (· = w.heap.size)) (w := w2) ?_ ?_⟩
    · rw [cellOf hfar, ← Array.getElem?_toList]
      have h5 : (cur.toList.take (D.len.toNat * 1))[i]? = vs[i]? := by rw [hg5]
      rw [List.getElem?_take, if_pos (by omega)] at h5
      rw [h5, hv]
    · exact (HO23.out.mono (fun _ _ h => h.elim)).setCell (S := (· = w.heap.size)) rfl _
    · rintro b rfl
      refine .inr fun cs hcs => ?_
      have hn := HN.out
      rw [hcs] at hn
      injection hn with hn
      injection hn with _ hn
      revert hn
      decide
end Go.Proofs.Ytlieijnhlfedmaa
