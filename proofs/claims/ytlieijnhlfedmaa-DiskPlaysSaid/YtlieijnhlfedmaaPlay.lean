/- DiskPlays' world: two disks of the program's, two of the document's, and a row of bytes that the law writes. -/
import Derived.Test.YtlieijnhlfedmaaRefAlike
import Derived.Test.YtlieijnhlfedmaaDiskOps
namespace Go.Proofs.Ytlieijnhlfedmaa
open Go.RowKit

theorem DSt.other {B : Nat} {w0 w w' : World} {p r : Nat} {D : DK} {S : Nat → Prop} (h : DSt B w0 w p r D) (k : Only S w w') (hS : ∀ i, S i → B ≤ i) (hp : ¬ S p) (hr : ¬ S r) : DSt B w0 w' p r D :=
  ⟨h.disk.only k hp hr, k.below h.below h.hB hS, h.hp, h.hr, Nat.le_trans h.hB k.size⟩
theorem cells_ne {w : World} {a b : Nat} {c c' : Array Value} {t t' : TypeId} {z z' : Nat × Nat} (h : w.heap[a]? = some (.cells c t z)) (h' : w.heap[b]? = some (.cells c' t' z')) (ht : t ≠ t') : a ≠ b := by
  rintro rfl
  rw [h] at h'
  injection h' with h'
  injection h' with _ h'
  exact ht h'
theorem map_ne {w : World} {a b : Nat} {c : Array Value} {t : TypeId} {z : Nat × Nat} {es : Array MapEntry} {k : Nat} (h : w.heap[a]? = some (.cells c t z)) (h' : w.heap[b]? = some (.map es k)) : a ≠ b := by
  rintro rfl
  rw [h] at h'
  cases h'
/-- Bytes of the law's own. -/
def BAt (w : World) (nb : Nat) (l : List UInt8) : Prop := ∃ t, w.heap[nb]? = some (.cells (bvs l) t (0, 0))
structure Play (B : Nat) (w0 w : World) (nb px rx py qy pz rz pw qw : Nat) (X Y Z W : DK) : Prop where
  x : DSt B w0 w px rx X
  z : DSt B w0 w pz rz Z
  y : ∃ cap left, RefAt nb w py qy cap left Y
  v : ∃ cap left, RefAt nb w pw qw cap left W
  hpy : B ≤ py
  hqy : B ≤ qy
  hpw : B ≤ pw
  hqw : B ≤ qw
  pxz : px ≠ pz
  rxz : rx ≠ rz
  pyw : py ≠ pw
  qyw : qy ≠ qw
  far : nb ≠ px ∧ nb ≠ rx ∧ nb ≠ py ∧ nb ≠ qy ∧ nb ≠ pz ∧ nb ≠ rz ∧ nb ≠ pw ∧ nb ≠ qw
section
variable {B : Nat} {w0 w w' : World} {nb px rx py qy pz rz pw qw : Nat} {X Y Z W : DK}
theorem Play.same (h : Play B w0 w nb px rx py qy pz rz pw qw X Y Z W) (k : Only (fun _ => False) w w') : Play B w0 w' nb px rx py qy pz rz pw qw X Y Z W := by
  obtain ⟨c1, l1, hy⟩ := h.y
  obtain ⟨c2, l2, hv⟩ := h.v
  exact { h with x := h.x.same k, z := h.z.same k, y := ⟨c1, l1, hy.only k (fun _ e => e.elim) id id⟩, v := ⟨c2, l2, hv.only k (fun _ e => e.elim) id id⟩ }
theorem DSt.map_at {p r : Nat} {D : DK} (h : DSt B w0 w p r D) : ∃ es c, w.heap[r]? = some (.map es c) := by
  obtain ⟨es, c, hm, _⟩ := h.disk.map
  exact ⟨es, c, hm⟩
theorem Play.nextx (h : Play B w0 w nb px rx py qy pz rz pw qw X Y Z W) (k : Only (Two px rx) w w') {X' : DK} (hd : DSt B w0 w' px rx X') : Play B w0 w' nb px rx py qy pz rz pw qw X' Y Z W := by
  obtain ⟨c1, l1, hy⟩ := h.y
  obtain ⟨c2, l2, hv⟩ := h.v
  obtain ⟨es, c, hm⟩ := h.x.map_at
  obtain ⟨es', c', hm'⟩ := h.z.map_at
  have hx := h.x.disk.cells
  obtain ⟨cs1, hq1, _⟩ := hy.row
  obtain ⟨cs2, hq2, _⟩ := hv.row
  have hN : NoRow nb (Two px rx) w := by
    rintro b (rfl | rfl)
    · refine .inr fun cs hcs => ?_
      exact cells_ne hx hcs (by decide) rfl
    · refine .inr fun cs hcs => ?_
      exact map_ne hcs hm rfl
  refine { h with x := hd, z := ?_, y := ⟨c1, l1, ?_⟩, v := ⟨c2, l2, ?_⟩ }
  · exact h.z.other k (fun i hi => by rcases hi with rfl | rfl; exact h.x.hp; exact h.x.hr) (fun e => by rcases e with e | e; exact h.pxz e.symm; exact map_ne h.z.disk.cells hm e) (fun e => by rcases e with e | e; exact map_ne hx hm' e.symm; exact h.rxz e.symm)
  · exact hy.only k hN (fun e => by rcases e with e | e; exact cells_ne hy.cells hx (by decide) e; exact map_ne hy.cells hm e) (fun e => by rcases e with e | e; exact cells_ne hq1 hx (by decide) e; exact map_ne hq1 hm e)
  · exact hv.only k hN (fun e => by rcases e with e | e; exact cells_ne hv.cells hx (by decide) e; exact map_ne hv.cells hm e) (fun e => by rcases e with e | e; exact cells_ne hq2 hx (by decide) e; exact map_ne hq2 hm e)
theorem Play.nexty (h : Play B w0 w nb px rx py qy pz rz pw qw X Y Z W) (k : Only (Two py qy) w w') {Y' : DK} (hd : ∃ cap left, RefAt nb w' py qy cap left Y') : Play B w0 w' nb px rx py qy pz rz pw qw X Y' Z W := by
  obtain ⟨c1, l1, hy⟩ := h.y
  obtain ⟨c2, l2, hv⟩ := h.v
  obtain ⟨es, c, hm⟩ := h.x.map_at
  obtain ⟨es', c', hm'⟩ := h.z.map_at
  have hx := h.x.disk.cells
  have hz := h.z.disk.cells
  obtain ⟨cs1, hq1, _⟩ := hy.row
  obtain ⟨cs2, hq2, _⟩ := hv.row
  have hS : ∀ i, Two py qy i → B ≤ i := fun i hi => by rcases hi with rfl | rfl; exact h.hpy; exact h.hqy
  have hN : NoRow nb (Two py qy) w := by
    rintro b (rfl | rfl)
    · exact .inr fun cs hcs => cells_ne hy.cells hcs (by decide) rfl
    · exact .inr fun cs hcs => cells_ne hq1 hcs (by decide) rfl
  refine { h with x := ?_, z := ?_, y := hd, v := ⟨c2, l2, ?_⟩ }
  · exact h.x.other k hS (fun e => by rcases e with e | e; exact cells_ne hx hy.cells (by decide) e; exact cells_ne hx hq1 (by decide) e) (fun e => by rcases e with e | e; exact map_ne hy.cells hm e.symm; exact map_ne hq1 hm e.symm)
  · exact h.z.other k hS (fun e => by rcases e with e | e; exact cells_ne hz hy.cells (by decide) e; exact cells_ne hz hq1 (by decide) e) (fun e => by rcases e with e | e; exact map_ne hy.cells hm' e.symm; exact map_ne hq1 hm' e.symm)
  · exact hv.only k hN (fun e => by rcases e with e | e; exact h.pyw e.symm; exact cells_ne hv.cells hq1 (by decide) e) (fun e => by rcases e with e | e; exact cells_ne hq2 hy.cells (by decide) e; exact h.qyw e.symm)
theorem Play.put (h : Play B w0 w nb px rx py qy pz rz pw qw X Y Z W) (hB : B ≤ nb) (o : Nat) (v : Value) : Play B w0 (w.setCell ⟨nb, o, none⟩ v) nb px rx py qy pz rz pw qw X Y Z W := by
  obtain ⟨c1, l1, hy⟩ := h.y
  obtain ⟨c2, l2, hv⟩ := h.v
  obtain ⟨f1, f2, f3, f4, f5, f6, f7, f8⟩ := h.far
  have k : Only (· = nb) w (w.setCell ⟨nb, o, none⟩ v) := (Only.refl _ w).put o v
  have hS : ∀ i, (· = nb) i → B ≤ i := fun i hi => by cases hi; exact hB
  have hN : NoRow nb (· = nb) w := fun b hb => .inl hb
  exact { h with x := h.x.other k hS (fun e => f1 e.symm) (fun e => f2 e.symm), z := h.z.other k hS (fun e => f5 e.symm) (fun e => f6 e.symm), y := ⟨c1, l1, hy.only k hN (fun e => f3 e.symm) (fun e => f4 e.symm)⟩, v := ⟨c2, l2, hv.only k hN (fun e => f7 e.symm) (fun e => f8 e.symm)⟩ }
theorem Play.lts (h : Play B w0 w nb px rx py qy pz rz pw qw X Y Z W) : px < w.heap.size ∧ rx < w.heap.size ∧ py < w.heap.size ∧ qy < w.heap.size ∧ pz < w.heap.size ∧ rz < w.heap.size ∧ pw < w.heap.size ∧ qw < w.heap.size := by
  obtain ⟨c1, l1, hy⟩ := h.y
  obtain ⟨c2, l2, hv⟩ := h.v
  obtain ⟨es, c, hm⟩ := h.x.map_at
  obtain ⟨es', c', hm'⟩ := h.z.map_at
  obtain ⟨cs1, hq1, _⟩ := hy.row
  obtain ⟨cs2, hq2, _⟩ := hv.row
  exact ⟨lt_of_heap h.x.disk.cells, lt_of_heap hm, lt_of_heap hy.cells, lt_of_heap hq1, lt_of_heap h.z.disk.cells, lt_of_heap hm', lt_of_heap hv.cells, lt_of_heap hq2⟩
theorem Play.fresh (h : Play B w0 w nb px rx py qy pz rz pw qw X Y Z W) (n : Nat) (hn : w.heap.size ≤ n) : Play B w0 w n px rx py qy pz rz pw qw X Y Z W := by
  obtain ⟨c1, l1, hy⟩ := h.y
  obtain ⟨c2, l2, hv⟩ := h.v
  obtain ⟨f1, f2, f3, f4, f5, f6, f7, f8⟩ := h.lts
  exact { h with y := ⟨c1, l1, hy.fresh n hn⟩, v := ⟨c2, l2, hv.fresh n hn⟩, far := ⟨by omega, by omega, by omega, by omega, by omega, by omega, by omega, by omega⟩ }
/-- A clone takes the first disk's place. -/
theorem Play.clonex (h : Play B w0 w nb px rx py qy pz rz pw qw X Y Z W) (k : Only (fun _ => False) w w') {p r : Nat} (hd : DSt B w0 w' p r X) (hp : w.heap.size ≤ p) (hr : w.heap.size ≤ r) (hnb : nb < w.heap.size) : Play B w0 w' nb p r py qy px rx pw qw X Y X W := by
  have h1 := h.same k
  obtain ⟨f1, f2, f3, f4, f5, f6, f7, f8⟩ := h.lts
  obtain ⟨g1, g2, g3, g4, g5, g6, g7, g8⟩ := h.far
  exact { h1 with x := hd, z := h1.x, pxz := by omega, rxz := by omega, far := ⟨by omega, by omega, g3, g4, g1, g2, g7, g8⟩ }
theorem Play.cloney (h : Play B w0 w nb px rx py qy pz rz pw qw X Y Z W) (k : Only (fun _ => False) w w') {p q : Nat} (hd : ∃ cap left, RefAt nb w' p q cap left Y) (hp : w.heap.size ≤ p) (hq : w.heap.size ≤ q) (hnb : nb < w.heap.size) : Play B w0 w' nb px rx p q pz rz py qy X Y Z Y := by
  have h1 := h.same k
  have hB := h.x.hB
  obtain ⟨f1, f2, f3, f4, f5, f6, f7, f8⟩ := h.lts
  obtain ⟨g1, g2, g3, g4, g5, g6, g7, g8⟩ := h.far
  exact { h1 with y := hd, v := h1.y, hpy := by omega, hqy := by omega, hpw := h.hpy, hqw := h.hqy, pyw := by omega, qyw := by omega, far := ⟨g1, g2, by omega, by omega, g5, g6, g3, g4⟩ }
end
end Go.Proofs.Ytlieijnhlfedmaa
