/- The laws' argument []Op, opened; a disk whose blocks all are full of one byte. -/
import Derived.Test.YtlieijnhlfedmaaStructs
import Derived.Test.YtlieijnhlfedmaaDiskLaw
import Derived.ProofKit
import Derived.OpenShut
namespace Go.Proofs.Ytlieijnhlfedmaa
open Go.ChangeShapes Go.WideShapes Go.Deep Go.RowKit

/-- An int of 64 bits. -/
def I64 (n : Int) : Prop := -9223372036854775808 ≤ n ∧ n ≤ 9223372036854775807

theorem add_part (x : Addr) (n j : Nat) : x.add (n + (j + 1)) = ⟨(x.add n).block, (x.add n).off + (j + 1), none⟩ := by
  rw [← Go.Deep.add_add]; rfl

/-- The cells of a slice of Op. -/
def OpsAt (w : World) (a : Option Addr) (len : Nat) : Prop :=
  len ≤ 9223372036854775807 ∧ ∀ i, i < len → ∃ (x : Addr) (kd at_ n : Int) (b : UInt8), a = some x ∧ x.block < w.heap.size ∧ w.cell? (x.add (i * 4)) = some (.int .i64 kd) ∧ w.cell? ⟨(x.add (i * 4)).block, (x.add (i * 4)).off + 1, none⟩ = some (.int .i64 at_) ∧
    w.cell? ⟨(x.add (i * 4)).block, (x.add (i * 4)).off + 2, none⟩ = some (.int .i64 n) ∧ w.cell? ⟨(x.add (i * 4)).block, (x.add (i * 4)).off + 3, none⟩ = some (bv b) ∧ I64 kd ∧ I64 at_ ∧ I64 n

theorem wf64 {n : Int} (h : (Lit.int .i64 n).wf = true) : I64 n := by
  simpa [I64, Lit.wf, IntKind.min, IntKind.max, IntKind.signed, IntKind.bits] using h
theorem wf8 {n : Int} (h : (Lit.int .u8 n).wf = true) : Value.int .u8 n = bv (UInt8.ofNat n.toNat) := by
  have hb : 0 ≤ n ∧ n ≤ 255 := by simpa [Lit.wf, IntKind.min, IntKind.max, IntKind.signed, IntKind.bits] using h
  unfold bv
  rw [UInt8.toNat_ofNat']
  congr 1
  omega

theorem ops_open {H : Type} {enc : TypeId × Value → H} {w : World} {fuel : Nat} {a : Option Addr} {len cap : Nat} {x : DataW H × List MemPlace}
    (h : DataW.trod enc Try.prog w 0 (fun _ => true) true fuel 36 [.slice a len cap] = some x) : OpsAt w a len := by
  rcases open_slice_fields Try.underlying36 Try.underlying39 (by kernel_rfl) (by kernel_rfl) h with ⟨hcs, _⟩ | ⟨ad, l, c, m, D, Pl, hcs, _, hl, hm, hmm, _, hi⟩
  · simp at hcs
    obtain ⟨rfl, rfl, rfl⟩ := hcs
    exact ⟨by omega, fun i hi => by omega⟩
  · simp at hcs
    obtain ⟨rfl, rfl, rfl⟩ := hcs
    unfold maxLen at hm
    refine ⟨by omega, fun i hil => ?_⟩
    simp only [if_true] at hmm
    obtain ⟨ys, n, _, _, _, hf⟩ := hi i (by omega)
    obtain ⟨v0, y0, c0, _, t0⟩ := hf 0 _ rfl
    obtain ⟨v1, y1, c1, _, t1⟩ := hf 1 _ rfl
    obtain ⟨v2, y2, c2, _, t2⟩ := hf 2 _ rfl
    obtain ⟨v3, y3, c3, _, t3⟩ := hf 3 _ rfl
    obtain ⟨k, e0, _, w0⟩ := DataW.trod_int Try.underlying3 t0
    obtain ⟨at_, e1, _, w1⟩ := DataW.trod_int Try.underlying3 t1
    obtain ⟨nn, e2, _, w2⟩ := DataW.trod_int Try.underlying3 t2
    obtain ⟨b, e3, _, w3⟩ := DataW.trod_int Try.underlying5 t3
    simp at e0 e1 e2 e3
    subst e0 e1 e2 e3
    have c1 : w.cell? (ad.add (i * 4 + (0 + 1))) = some (.int .i64 at_) := c1
    rw [add_part] at c1
    have c2 : w.cell? (ad.add (i * 4 + (1 + 1))) = some (.int .i64 nn) := c2
    rw [add_part] at c2
    have c3 : w.cell? (ad.add (i * 4 + (2 + 1))) = some (.int .u8 b) := c3
    rw [add_part] at c3
    have hb := block_lt_of_cell c0
    rw [add_block] at hb
    rw [wf8 w3] at c3
    exact ⟨ad, k, at_, nn, _, rfl, hb, c0, c1, c2, c3, wf64 w0, wf64 w1, wf64 w2⟩

/-- A disk of m blocks whose power is on, without a fuse, written n times; its blocks are full of these bytes. -/
structure Fulls (m : Nat) (n : Nat) (D : DK) (wl : List UInt8) : Prop where
  len : D.len = m
  off : D.off = false
  fuse : D.fuse = -1
  writes : D.writes = n
  wlen : wl.length = m
  get : ∀ j : Nat, j < m → D.get j = blockOf (wl.getD j 0)

theorem Fulls.start (m : Nat) : Fulls m 0 ⟨m, false, -1, 0, fun _ => none⟩ (List.replicate m 0) := by
  refine ⟨rfl, rfl, rfl, rfl, by simp, fun j hj => ?_⟩
  have : (List.replicate m (0 : UInt8)).getD j 0 = 0 := by
    rw [List.getD_eq_getElem?_getD, List.getElem?_replicate, if_pos hj]; rfl
  rw [this]
  rfl
theorem Fulls.code {m n : Nat} {D : DK} {wl : List UInt8} (h : Fulls m n D wl) (j : Nat) (hj : j < m) : D.code j = 0 := by
  unfold DK.code
  rw [h.off, h.len]
  rw [if_neg (by simp), if_neg (by omega)]
theorem Fulls.next {m n : Nat} {D : DK} {wl : List UInt8} (h : Fulls m n D wl) (k : Nat) (hk : k < m) (c : UInt8) :
    (D.write (k : Int) (blockOf c)).2 = 0 ∧ Fulls m (n + 1) (D.write (k : Int) (blockOf c)).1 (wl.set k c) := by
  have hc := h.code k hk
  have hf : ¬ D.fuse = 0 := by rw [h.fuse]; omega
  have e : D.write (k : Int) (blockOf c) = (D.wrote (k : Int) (blockOf c), 0) := by
    unfold DK.write
    rw [if_neg (by rw [hc]; simp), if_neg (by simp [blockOf_length]), if_neg hf]
  rw [e]
  refine ⟨rfl, h.len, h.off, ?_, ?_, by simp [h.wlen], fun j hj => ?_⟩
  · simp only [DK.wrote, h.fuse]; rfl
  · simp only [DK.wrote, h.writes]; omega
  · have hg := h.get j hj
    unfold DK.get at hg ⊢
    simp only [DK.wrote]
    by_cases hjk : j = k
    · subst hjk
      rw [if_pos rfl]
      simp only [Option.getD_some]
      rw [List.getD_eq_getElem?_getD, List.getElem?_set_self (by rw [h.wlen]; omega)]
      rfl
    · rw [if_neg (by omega), hg]
      rw [List.getD_eq_getElem?_getD, List.getD_eq_getElem?_getD, List.getElem?_set_ne (fun e => hjk e.symm)]
theorem Fulls.fine {m n : Nat} {D : DK} {wl : List UInt8} (h : Fulls m n D wl) (hn : n < 4611686018427387904) : D.fine :=
  ⟨by rw [h.fuse]; omega, by rw [h.writes]; omega, by rw [h.writes]; omega⟩

/-- A cell of a row of bytes. -/
theorem bvs_cell {w : World} {b : Nat} {l : List UInt8} {t : TypeId} (h : w.heap[b]? = some (.cells (bvs l) t (0, 0))) {j : Nat} (hj : j < l.length) : w.cell? ⟨b, j, none⟩ = some (bv (l.getD j 0)) := by
  rw [cellOf h, bvs_get, List.getElem?_eq_getElem hj, List.getD_eq_getElem?_getD, List.getElem?_eq_getElem hj]
  rfl

def zerosN (n : Nat) : List UInt8 := List.replicate n 0
theorem zerosN_length (n : Nat) : (zerosN n).length = n := by simp [zerosN]
theorem made_bytes (n : Nat) : madeCells (Value.int .u8 0).cells n = bvs (zerosN n) := by
  apply Array.ext
  · simp [madeCells, bvs, zerosN]
  · intro i h1 h2
    simp [madeCells, bvs, zerosN, bv, Value.cells, Nat.mod_one]
theorem u8Info : (Try.prog.info? 5).map (fun i => (i.zero, i.size, i.bytes)) = some (some (.int .u8 0), 1, 1) := by kernel_rfl
theorem run_make_bytes (w : World) (n : Nat) (hn : n ≤ 1000000) :
    (Instr.makeSlice 22 (.int .i64 (n : Int)) (.int .i64 (n : Int))).run Try.prog w = .ok (.slice (some ⟨w.heap.size, 0, none⟩) n n) (w.alloc (.cells (bvs (zerosN n)) 5)) := by
  obtain ⟨i, hi, hz0, hz1, hz2⟩ := info_parts u8Info
  have h := run_make (P := Try.prog) w 22 5 i (.int .u8 0) Try.underlying22 hi hz0 .i64 .i64 n n (by omega) (Int.le_refl _) (by rw [hz2]; omega) (by omega)
  rw [h, hz1]
  simp only [Int.toNat_natCast, Nat.mul_one, made_bytes]

/-- A disk of m blocks, written n times. -/
structure Any (m n : Nat) (D : DK) : Prop where
  len : D.len = m
  writes : D.writes = n
  lo : -1 ≤ D.fuse
  hi : D.fuse ≤ 9223372036854775807

theorem Any.fine {m n : Nat} {D : DK} (h : Any m n D) (hn : n < 4611686018427387904) : D.fine := ⟨h.hi, by rw [h.writes]; omega, by rw [h.writes]; omega⟩
theorem Any.start (m : Nat) : Any m 0 ⟨m, false, -1, 0, fun _ => none⟩ := ⟨rfl, rfl, by show (-1 : Int) ≤ -1; omega, by show (-1 : Int) ≤ 9223372036854775807; omega⟩
theorem Any.boot {m n : Nat} {D : DK} (h : Any m n D) : Any m n D.booted := ⟨h.len, h.writes, by simp [DK.booted], by simp [DK.booted]⟩
theorem Any.fuse {m n : Nat} {D : DK} (h : Any m n D) (i : Int) (hi : I64 i) : Any m n (D.fused i) := by
  unfold DK.fused
  split
  · exact h
  · obtain ⟨h1, h2⟩ := hi
    refine ⟨h.len, h.writes, ?_, ?_⟩
    · simp only; split <;> omega
    · simp only; split <;> omega
theorem Any.write_yes {m n : Nat} {D : DK} (h : Any m n D) (i : Int) (l : List UInt8) (he : (D.write i l).2 = 0) : Any m (n + 1) (D.write i l).1 := by
  unfold DK.write at he ⊢
  split at he
  · rename_i hc; exact absurd he hc
  · rename_i hc
    rw [if_neg hc]
    split at he
    · simp at he
    · rename_i hl
      rw [if_neg hl]
      split at he
      · simp at he
      · rename_i hf
        rw [if_neg hf]
        have := h.lo
        have := h.hi
        refine ⟨h.len, ?_, ?_, ?_⟩
        · simp only [DK.wrote, h.writes]; omega
        · simp only [DK.wrote]; split <;> omega
        · simp only [DK.wrote]; split <;> omega
theorem Any.write_no {m n : Nat} {D : DK} (h : Any m n D) (i : Int) (l : List UInt8) (he : (D.write i l).2 ≠ 0) : Any m n (D.write i l).1 := by
  unfold DK.write at he ⊢
  split
  · exact h
  · split
    · exact h
    · split
      · exact ⟨h.len, h.writes, by simp [DK.blown], by simp [DK.blown]⟩
      · rename_i a b c
        rw [if_neg a, if_neg b, if_neg c] at he
        simp at he
theorem DK.write_yes {D : DK} {i : Int} {l : List UInt8} (he : (D.write i l).2 = 0) : D.code i = 0 ∧ (D.write i l).1.code i = 0 ∧ (D.write i l).1.get i = l := by
  unfold DK.write at he ⊢
  split at he
  · rename_i hc; exact absurd he hc
  · rename_i hc
    rw [if_neg hc]
    split at he
    · simp at he
    · rename_i hl
      rw [if_neg hl]
      split at he
      · simp at he
      · rename_i hf
        rw [if_neg hf]
        have e1 : (D.wrote i l).code i = D.code i := rfl
        have e2 : D.code i = 0 := by simpa using hc
        refine ⟨e2, e1.trans e2, ?_⟩
        simp [DK.get, DK.wrote]
theorem DK.write_no {D : DK} {i : Int} {l : List UInt8} (he : (D.write i l).2 ≠ 0) (hc : (D.write i l).1.code i = 0) : (D.write i l).1.get i = D.get i := by
  unfold DK.write at he hc ⊢
  split
  · rfl
  · split
    · rfl
    · split
      · rename_i a b c
        rw [if_neg a, if_neg b, if_pos c] at hc
        simp [DK.code, DK.blown] at hc
      · rename_i a b c
        rw [if_neg a, if_neg b, if_neg c] at he
        simp at he

/-- What Read answers, whatever is asked for. -/
def DK.shows (D : DK) (i : Int) : List UInt8 := if D.code i = 0 then D.get i else []
theorem read_any {B : Nat} {w0 w : World} {p r : Nat} {D : DK} (h : DSt B w0 w p r D) (i : Int) :
    Calls Try.prog 15 #[.pointer (some ⟨p, 0, none⟩), .int .i64 i] w fun e w' => ∃ a n c, e = .returned (.tuple #[.slice a n c, .int .i64 (D.code i)]) ∧ n = (D.shows i).length ∧ SliceAt w' a (D.shows i) ∧ DSt B w0 w' p r D ∧ Only (fun _ => False) w w' := by
  unfold DK.shows
  by_cases hc : D.code i = 0
  · rw [if_pos hc, hc]
    refine (read_st h i hc).mono ?_
    rintro e w' ⟨b, rfl, hr, hl, hs, ho, _⟩
    exact ⟨_, _, _, rfl, hl.symm, .of_row hr, hs, ho⟩
  · rw [if_neg hc]
    refine (read_no w p r D i h.disk hc).mono ?_
    rintro e w' ⟨rfl, rfl⟩
    exact ⟨_, _, _, rfl, rfl, .nil _ _, h, Only.refl _ _⟩

theorem SliceAt.only {S : Nat → Prop} {w w' : World} {a : Option Addr} {l : List UInt8} (h : SliceAt w a l) (k : Only S w w') (hs : ∀ ad, a = some ad → l ≠ [] → ¬ S ad.block) : SliceAt w' a l := by
  refine ⟨fun ad e => ?_, h.there⟩
  by_cases hl : l = []
  · subst hl; intro i b e; simp at e
  · have h1 := h.row ad e
    have hp : 0 < l.length := List.length_pos_iff.2 hl
    exact h1.only k (hs ad e hl) (h1.lt hp)
theorem SliceAt.grow {w w' : World} {a : Option Addr} {l : List UInt8} (h : SliceAt w a l) (k : Only (fun _ => False) w w') : SliceAt w' a l := h.only k (fun _ _ _ h => h)
theorem SliceAt.two {w w' : World} {B p r : Nat} {w0 : World} {D : DK} {a : Option Addr} {l : List UInt8} (h : SliceAt w a l) (hs : DSt B w0 w p r D) (k : Only (Two p r) w w') : SliceAt w' a l :=
  h.only k (fun ad e hl hx => by
    have := hs.disk.row_ne (h.row ad e) (List.length_pos_iff.2 hl)
    rcases hx with hx | hx
    · exact this.1 hx
    · exact this.2 hx)

theorem conv_slice (l : List UInt8) (a : Option Addr) (n c : Nat) (hn : n = l.length) (w : World) (h : SliceAt w a l) : (convert 22 9 (.slice a n c)).run Try.prog w = .ok (.string (strOf l)) w := by
  cases a with
  | some ad => exact run_convert_row Try.underlying22 Try.underlying5 Try.underlying9 n c hn.symm (h.row ad rfl)
  | none =>
    have hl : l = [] := by
      apply Classical.byContradiction
      intro hl
      obtain ⟨ad, e⟩ := h.there hl
      cases e
    subst hl
    rw [run_convert_bytes_string w 22 9 5 _ _ _ Try.underlying22 Try.underlying5 Try.underlying9]
    rfl
end Go.Proofs.Ytlieijnhlfedmaa
