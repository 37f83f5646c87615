/- The laws' argument []Op, opened; a disk whose blocks all are full of one byte. -/
import Derived.Test.YtlieijnhlfedmaaStructs
import Derived.Test.YtlieijnhlfedmaaDiskLaw
import Derived.ProofKit
import Derived.OpenShut
namespace Go.Proofs.Ytlieijnhlfedmaa
open Go.ChangeShapes Go.WideShapes Go.Deep Go.RowKit

/-- The cells of a slice of Op. -/
def OpsAt (w : World) (a : Option Addr) (len : Nat) : Prop :=
  len ≤ 9223372036854775807 ∧ ∀ i, i < len → ∃ (x : Addr) (kd at_ n : Int) (b : UInt8), a = some x ∧ x.block < w.heap.size ∧ w.cell? (x.add (i * 4)) = some (.int .i64 kd) ∧ w.cell? ⟨(x.add (i * 4)).block, (x.add (i * 4)).off + 1, none⟩ = some (.int .i64 at_) ∧
    w.cell? ⟨(x.add (i * 4)).block, (x.add (i * 4)).off + 2, none⟩ = some (.int .i64 n) ∧ w.cell? ⟨(x.add (i * 4)).block, (x.add (i * 4)).off + 3, none⟩ = some (bv b) ∧ I64 kd ∧ I64 at_ ∧ I64 n

theorem ops_open {H : Type} {enc : TypeId × Value → H} {w : World} {fuel : Nat} {a : Option Addr} {len cap : Nat} {x : DataW H × List MemPlace}
    (h : DataW.trod enc Try.prog w 0 (fun _ => true) true fuel 36 [.slice a len cap] = some x) : OpsAt w a len := by
  rcases open_slice_fields Try.underlying36 Try.underlying39 (by kernel_rfl) (by kernel_rfl) h with ⟨hcs, _⟩ | ⟨ad, l, c, m, D, Pl, hcs, _, hl, hm, hmm, _, hi⟩
  · simp at hcs
    obtain ⟨rfl, rfl, rfl⟩ := hcs
    exact ⟨by omega, fun i hi => by omega⟩
  · simp at hcs
    obtain ⟨rfl, rfl, rfl⟩ := hcs
    unfold maxLen at hm
    refine ⟨by omega, fun i hil => ?_⟩
    simp only [if_true] at hmm
    obtain ⟨ys, n, _, _, _, hf⟩ := hi i (by omega)
    obtain ⟨v0, y0, c0, _, t0⟩ := hf 0 _ rfl
    obtain ⟨v1, y1, c1, _, t1⟩ := hf 1 _ rfl
    obtain ⟨v2, y2, c2, _, t2⟩ := hf 2 _ rfl
    obtain ⟨v3, y3, c3, _, t3⟩ := hf 3 _ rfl
    obtain ⟨k, e0, _, w0⟩ := DataW.trod_int Try.underlying3 t0
    obtain ⟨at_, e1, _, w1⟩ := DataW.trod_int Try.underlying3 t1
    obtain ⟨nn, e2, _, w2⟩ := DataW.trod_int Try.underlying3 t2
    obtain ⟨b, e3, _, w3⟩ := DataW.trod_int Try.underlying5 t3
    simp at e0 e1 e2 e3
    subst e0 e1 e2 e3
    have c1 : w.cell? (ad.add (i * 4 + (0 + 1))) = some (.int .i64 at_) := c1
    rw [add_part] at c1
    have c2 : w.cell? (ad.add (i * 4 + (1 + 1))) = some (.int .i64 nn) := c2
    rw [add_part] at c2
    have c3 : w.cell? (ad.add (i * 4 + (2 + 1))) = some (.int .u8 b) := c3
    rw [add_part] at c3
    have hb := block_lt_of_cell c0
    rw [add_block] at hb
    rw [wf8 w3] at c3
    exact ⟨ad, k, at_, nn, _, rfl, hb, c0, c1, c2, c3, wf64 w0, wf64 w1, wf64 w2⟩

/-- A disk of m blocks whose power is on, without a fuse, written n times; its blocks are full of these bytes. -/
structure Fulls (m : Nat) (n : Nat) (D : DK) (wl : List UInt8) : Prop where
  len : D.len = m
  off : D.off = false
  fuse : D.fuse = -1
  writes : D.writes = n
  wlen : wl.length = m
  get : ∀ j : Nat, j < m → D.get j = blockOf (wl.getD j 0)

theorem Fulls.start (m : Nat) : Fulls m 0 ⟨m, false, -1, 0, fun _ => none⟩ (List.replicate m 0) := by
  refine ⟨rfl, rfl, rfl, rfl, by simp, fun j hj => ?_⟩
  have : (List.replicate m (0 : UInt8)).getD j 0 = 0 := by
    rw [List.getD_eq_getElem?_getD, List.getElem?_replicate, if_pos hj]; rfl
  rw [this]
  rfl
theorem Fulls.code {m n : Nat} {D : DK} {wl : List UInt8} (h : Fulls m n D wl) (j : Nat) (hj : j < m) : D.code j = 0 := by
  unfold DK.code
  rw [h.off, h.len]
  rw [if_neg (by simp), if_neg (by omega)]
theorem Fulls.next {m n : Nat} {D : DK} {wl : List UInt8} (h : Fulls m n D wl) (k : Nat) (hk : k < m) (c : UInt8) :
    (D.write (k : Int) (blockOf c)).2 = 0 ∧ Fulls m (n + 1) (D.write (k : Int) (blockOf c)).1 (wl.set k c) := by
  have hc := h.code k hk
  have hf : ¬ D.fuse = 0 := by rw [h.fuse]; omega
  have e : D.write (k : Int) (blockOf c) = (D.wrote (k : Int) (blockOf c), 0) := by
    unfold DK.write
    rw [if_neg (by rw [hc]; simp), if_neg (by simp [blockOf_length]), if_neg hf]
  rw [e]
  refine ⟨rfl, h.len, h.off, ?_, ?_, by simp [h.wlen], fun j hj => ?_⟩
  · simp only [DK.wrote, h.fuse]; rfl
  · simp only [DK.wrote, h.writes]; omega
  · have hg := h.get j hj
    unfold DK.get at hg ⊢
    simp only [DK.wrote]
    by_cases hjk : j = k
    · subst hjk
      rw [if_pos rfl]
      simp only [Option.getD_some]
      rw [List.getD_eq_getElem?_getD, List.getElem?_set_self (by rw [h.wlen]; omega)]
      rfl
    · rw [if_neg (by omega), hg]
      rw [List.getD_eq_getElem?_getD, List.getD_eq_getElem?_getD, List.getElem?_set_ne (fun e => hjk e.symm)]
theorem Fulls.fine {m n : Nat} {D : DK} {wl : List UInt8} (h : Fulls m n D wl) (hn : n < 4611686018427387904) : D.fine :=
  ⟨by rw [h.fuse]; omega, by rw [h.writes]; omega, by rw [h.writes]; omega⟩

/-- A disk of m blocks, written n times. -/
structure Any (m n : Nat) (D : DK) : Prop where
  len : D.len = m
  writes : D.writes = n
  lo : -1 ≤ D.fuse
  hi : D.fuse ≤ 9223372036854775807

theorem Any.fine {m n : Nat} {D : DK} (h : Any m n D) (hn : n < 4611686018427387904) : D.fine := ⟨h.hi, by rw [h.writes]; omega, by rw [h.writes]; omega⟩
theorem Any.start (m : Nat) : Any m 0 ⟨m, false, -1, 0, fun _ => none⟩ := ⟨rfl, rfl, by show (-1 : Int) ≤ -1; omega, by show (-1 : Int) ≤ 9223372036854775807; omega⟩
theorem Any.boot {m n : Nat} {D : DK} (h : Any m n D) : Any m n D.booted := ⟨h.len, h.writes, by simp [DK.booted], by simp [DK.booted]⟩
theorem Any.fuse {m n : Nat} {D : DK} (h : Any m n D) (i : Int) (hi : I64 i) : Any m n (D.fused i) := by
  unfold DK.fused
  split
  · exact h
  · obtain ⟨h1, h2⟩ := hi
    refine ⟨h.len, h.writes, ?_, ?_⟩
    · simp only; split <;> omega
    · simp only; split <;> omega
theorem Any.write_yes {m n : Nat} {D : DK} (h : Any m n D) (i : Int) (l : List UInt8) (he : (D.write i l).2 = 0) : Any m (n + 1) (D.write i l).1 := by
  unfold DK.write at he ⊢
  split at he
  · rename_i hc; exact absurd he hc
  · rename_i hc
    rw [if_neg hc]
    split at he
    · simp at he
    · rename_i hl
      rw [if_neg hl]
      split at he
      · simp at he
      · rename_i hf
        rw [if_neg hf]
        have := h.lo
        have := h.hi
        refine ⟨h.len, ?_, ?_, ?_⟩
        · simp only [DK.wrote, h.writes]; omega
        · simp only [DK.wrote]; split <;> omega
        · simp only [DK.wrote]; split <;> omega
theorem Any.write_no {m n : Nat} {D : DK} (h : Any m n D) (i : Int) (l : List UInt8) (he : (D.write i l).2 ≠ 0) : Any m n (D.write i l).1 := by
  unfold DK.write at he ⊢
  split
  · exact h
  · split
    · exact h
    · split
      · exact ⟨h.len, h.writes, by simp [DK.blown], by simp [DK.blown]⟩
      · rename_i a b c
        rw [if_neg a, if_neg b, if_neg c] at he
        simp at he
end Go.Proofs.Ytlieijnhlfedmaa
