/- The contracts of package disk (and of the law's helpers full, kind): what each call answers and what it leaves in memory. -/
import Derived.Test.YtpmlmjbhgonegaaProg
import Derived.Test.YtpmlmjbhgonegaaBase
namespace Go.Proofs.Ytpmlmjbhgonegaa
open Go.RowKit

/-- What a disk has. -/
structure DK where
  len : Int
  off : Bool
  fuse : Int
  writes : Int
  has : Int → Option (List UInt8)

def zeros64 : List UInt8 := List.replicate 64 0
def DK.get (D : DK) (i : Int) : List UInt8 := (D.has i).getD zeros64

def diskCells (D : DK) (r : Nat) : Array Value := #[.int .i64 D.len, .map (some r), .bool D.off, .int .i64 D.fuse, .int .i64 D.writes]

/-- Block p is a disk's struct, block r its map. -/
structure DiskAt (w : World) (p r : Nat) (D : DK) : Prop where
  cells : w.heap[p]? = some (.cells (diskCells D r) 67 (0, 0))
  map : ∃ es clock, w.heap[r]? = some (.map es clock) ∧ intKeys es.toList ∧ ∀ n, lookI es.toList n = (D.has n).map fun l => .agg (bvs l)
  long : ∀ n l, D.has n = some l → l.length = 64

theorem DiskAt.ne {w : World} {p r : Nat} {D : DK} (h : DiskAt w p r D) : p ≠ r := by
  intro e
  obtain ⟨es, c, hm, _⟩ := h.map
  have := h.cells
  rw [e, hm] at this
  cases this

theorem DiskAt.only {S : Nat → Prop} {w w' : World} {p r : Nat} {D : DK} (h : DiskAt w p r D) (k : Only S w w') (hp : ¬ S p) (hr : ¬ S r) : DiskAt w' p r D := by
  obtain ⟨es, c, hm, h2⟩ := h.map
  exact ⟨k.keeps h.cells hp, ⟨es, c, k.keeps hm hr, h2⟩, h.long⟩

theorem DK.get_long {w : World} {p r : Nat} {D : DK} (h : DiskAt w p r D) (i : Int) : (D.get i).length = 64 := by
  unfold DK.get
  cases e : D.has i with
  | none => simp [zeros64]
  | some l => simpa using h.long i l e

/-- What check answers. -/
def DK.code (D : DK) (i : Int) : Int := if D.off then 2 else if i < 0 ∨ D.len ≤ i then 10 else 0

theorem ret_i {a b : Int} (h : a = b) : Ending.returned (.int .i64 a) = .returned (.int .i64 b) := by rw [h]

set_option maxHeartbeats 400000 in
theorem check_calls (w : World) (p r : Nat) (D : DK) (i : Int) (h : w.heap[p]? = some (.cells (diskCells D r) 67 (0, 0))) :
    Calls Try.prog 33 #[.pointer (some ⟨p, 0, none⟩), .int .i64 i] w fun e w' =>
      e = .returned (.int .i64 (D.code i)) ∧ w = w' := by
  obtain ⟨len, off, fuse, n, has⟩ := D
  have c0 := cellOf h 0
  have c2 := cellOf h 2
  simp [diskCells] at c0 c2
  clear h
  unfold DK.code
  cases off
  · by_cases h1 : i < 0
    · go_enter Try.func33, Try.ntmps33
      go_wp2
      go_ret
      exact ⟨ret_i (by simp), rfl⟩
    · by_cases h2 : len ≤ i
      · go_enter Try.func33, Try.ntmps33
        go_wp2
        go_ret
        exact ⟨ret_i (by simp), rfl⟩
      · go_enter Try.func33, Try.ntmps33
        go_wp2
        go_ret
        exact ⟨ret_i (by simp), rfl⟩
  · go_enter Try.func33, Try.ntmps33
    go_wp2
    go_ret
    exact ⟨ret_i (by simp), rfl⟩

theorem zeroBlock (w : World) : (zeroValue 76).run Try.prog w = .ok (.agg (bvs zeros64)) w := by kernel_rfl

set_option maxHeartbeats 400000 in
theorem on_calls (w : World) (p r : Nat) (D : DK) (h : DiskAt w p r D) :
    Calls Try.prog 21 #[.pointer (some ⟨p, 0, none⟩)] w fun e w' => e = .returned (.bool (!D.off)) ∧ w = w' := by
  obtain ⟨len, off, fuse, n, has⟩ := D
  have c2 := cellOf h.cells 2
  simp [diskCells] at c2
  clear h
  go_enter Try.func21, Try.ntmps21
  go_wp2
  go_ret
  exact ⟨by simp, rfl⟩

set_option maxHeartbeats 400000 in
theorem writes_calls (w : World) (p r : Nat) (D : DK) (h : DiskAt w p r D) :
    Calls Try.prog 28 #[.pointer (some ⟨p, 0, none⟩)] w fun e w' => e = .returned (.int .i64 D.writes) ∧ w = w' := by
  obtain ⟨len, off, fuse, n, has⟩ := D
  have c2 := cellOf h.cells 4
  simp [diskCells] at c2
  clear h
  go_enter Try.func28, Try.ntmps28
  go_wp2
  go_ret
  exact ⟨by simp, rfl⟩

def DK.booted (D : DK) : DK := { D with off := false, fuse := -1 }
def DK.fused (D : DK) (n : Int) : DK := if D.off then D else { D with fuse := if n < -1 then -1 else n }

/-- A disk's struct written anew, the map as it was. -/
theorem DiskAt.turn {w w' : World} {p r : Nat} {D : DK} (h : DiskAt w p r D) (D' : DK) (hh : D'.has = D.has) (k : Only (· = p) w w')
    (hc : w'.heap[p]? = some (.cells (diskCells D' r) 67 (0, 0))) : DiskAt w' p r D' := by
  obtain ⟨es, c, hm, h2⟩ := h.map
  exact ⟨hc, ⟨es, c, k.keeps hm (fun e => h.ne e.symm), by rw [hh]; exact h2⟩, by rw [hh]; exact h.long⟩

set_option maxHeartbeats 400000 in
theorem boot_calls (w : World) (p r : Nat) (D : DK) (h : DiskAt w p r D) :
    Calls Try.prog 26 #[.pointer (some ⟨p, 0, none⟩)] w fun e w' => e = .returned (.tuple #[]) ∧ DiskAt w' p r D.booted ∧ Only (· = p) w w' := by
  have hd := h
  obtain ⟨len, off, fuse, n, has⟩ := D
  have c2 := cellOf h.cells 2
  have c3 := cellOf h.cells 3
  have f2 := freeOf h.cells 2
  have f3 := freeOf h.cells 3
  have hcs := Lib.hid h.cells
  simp [diskCells] at c2 c3
  have HD := Lib.hid hd
  clear h hd
  go_enter Try.func26, Try.ntmps26
  go_wp2
  go_end0
  have k : Only (· = p) w ((w.setCell ⟨p, 2, none⟩ (.bool false)).setCell ⟨p, 3, none⟩ (.int .i64 (-1))) := ((Only.refl _ w).put 2 _).put 3 _
  have e := heap_setCell_same (w.setCell ⟨p, 2, none⟩ (.bool false)) p 3 _ _ (.int .i64 (-1)) (heap_setCell_same w p 2 _ _ (.bool false) hcs.out)
  exact ⟨rfl, HD.out.turn _ rfl k (by rw [e]; rfl), k⟩

set_option maxHeartbeats 400000 in
theorem fuse_calls (w : World) (p r : Nat) (D : DK) (i : Int) (h : DiskAt w p r D) :
    Calls Try.prog 25 #[.pointer (some ⟨p, 0, none⟩), .int .i64 i] w fun e w' => e = .returned (.tuple #[]) ∧ DiskAt w' p r (D.fused i) ∧ Only (· = p) w w' := by
  have hd := h
  obtain ⟨len, off, fuse, n, has⟩ := D
  have c2 := cellOf h.cells 2
  have c3 := cellOf h.cells 3
  have f3 := freeOf h.cells 3
  have hcs := Lib.hid h.cells
  simp [diskCells] at c2 c3
  have HD := Lib.hid hd
  clear h hd
  unfold DK.fused
  cases off
  · by_cases hi : i < -1
    · go_enter Try.func25, Try.ntmps25
      go_wp2
      go_end0
      have k : Only (· = p) w (w.setCell ⟨p, 3, none⟩ (.int .i64 (-1))) := (Only.refl _ w).put 3 _
      refine ⟨rfl, ?_, k⟩
      exact HD.out.turn _ (by simp) k (by rw [heap_setCell_same w p 3 _ _ _ hcs.out]; simp [diskCells])
    · go_enter Try.func25, Try.ntmps25
      go_wp2
      go_end0
      have k : Only (· = p) w (w.setCell ⟨p, 3, none⟩ (.int .i64 i)) := (Only.refl _ w).put 3 _
      refine ⟨rfl, ?_, k⟩
      exact HD.out.turn _ (by simp) k (by rw [heap_setCell_same w p 3 _ _ _ hcs.out]; simp [diskCells])
  · go_enter Try.func25, Try.ntmps25
    go_wp2
    go_end0
    exact ⟨rfl, by simpa using HD.out, Only.refl _ w⟩

set_option maxHeartbeats 400000 in
theorem new_calls (w : World) (n : Int) (h1 : 1 ≤ n) (h2 : n ≤ 4096) :
    Calls Try.prog 10 #[.int .i64 n] w fun e w' => e = .returned (.tuple #[.pointer (some ⟨w.heap.size + 1, 0, none⟩), .int .i64 0]) ∧ DiskAt w' (w.heap.size + 1) w.heap.size ⟨n, false, -1, 0, fun _ => none⟩ ∧ Only (fun _ => False) w w' := by
  have hmm := @run_makeMap Try.prog
  go_enter Try.func10, Try.ntmps10
  go_wp2
  go_ret2
  refine ⟨rfl, ⟨?_, ?_, fun _ _ h => by cases h⟩, ((Only.refl _ w).alloc _).alloc _⟩
  · rw [heap_alloc2_new]; rfl
  · exact ⟨#[], 0, by rw [heap_alloc2_old], by intro e he; simp at he, fun n => rfl⟩

set_option maxHeartbeats 400000 in
theorem new_refuses (w : World) (n : Int) (h : n < 1 ∨ 4096 < n) :
    Calls Try.prog 10 #[.int .i64 n] w fun e w' => e = .returned (.tuple #[.pointer none, .int .i64 1]) ∧ w = w' := by
  rcases h with h | h
  · go_enter Try.func10, Try.ntmps10
    go_wp2
    go_ret2
    exact ⟨rfl, rfl⟩
  · have h' : ¬ n < 1 := by omega
    go_enter Try.func10, Try.ntmps10
    go_wp2
    go_ret2
    exact ⟨rfl, rfl⟩

theorem DiskAt.row_ne {w : World} {p r : Nat} {D : DK} (h : DiskAt w p r D) {a : Addr} {l : List UInt8} (hr : RowAt w a l) (hl : 0 < l.length) : a.block ≠ p ∧ a.block ≠ r := by
  have h0 := hr 0 l[0] (by simp)
  have ha : a.add 0 = a := rfl
  rw [ha] at h0
  constructor
  · intro e
    rw [World.cell?, e, h.cells] at h0
    simp only at h0
    split at h0
    · cases h0
    · have hn : (diskCells D r)[a.off]? = some (bv l[0]) := h0
      have hlt : a.off < 5 := by
        rcases Nat.lt_or_ge a.off 5 with hx | hx
        · exact hx
        · rw [Array.getElem?_eq_none (by simpa [diskCells] using hx)] at hn; cases hn
      have : a.off = 0 ∨ a.off = 1 ∨ a.off = 2 ∨ a.off = 3 ∨ a.off = 4 := by omega
      rcases this with e | e | e | e | e <;> rw [e] at hn <;> simp [diskCells, bv] at hn
  · intro e
    obtain ⟨es, c, hm, _⟩ := h.map
    rw [World.cell?, e, hm] at h0
    cases h0

theorem blockInfo : (Try.prog.info? 76).map (·.size) = some 64 := by kernel_rfl

theorem run_loadBlock (w : World) (a : Addr) (l : List UInt8) (hl : l.length = 64) (h : RowAt w a l) : (loadVar 76 a).run Try.prog w = .ok (.agg (bvs l)) w := by
  have h1 : (loadCells a (l.map bv).length).run Try.prog w = .ok (l.map bv).toArray w :=
    run_loadCells_list (P := Try.prog) w a (l.map bv) (fun j v hv => by
      rw [List.getElem?_map] at hv
      cases e : l[j]? with
      | none => rw [e] at hv; cases hv
      | some b => rw [e] at hv; cases hv; exact h j b e)
  cases hq : Try.prog.info? 76 with
  | none => have := blockInfo; rw [hq] at this; cases this
  | some i =>
    have hs : i.size = 64 := by have := blockInfo; rw [hq] at this; simpa using this
    have hagg : (isAgg 76).run Try.prog w = .ok true w := by
      unfold isAgg
      rw [Sem.run_bind, run_underlying Try.underlying76 w]
      rfl
    rw [List.length_map, hl] at h1
    simp [loadVar, Sem.run_bind, hagg, sizeOf, typeInfo, hq, hs, h1, bvs]

def DK.wrote (D : DK) (i : Int) (l : List UInt8) : DK :=
  { D with fuse := if 0 < D.fuse then D.fuse - 1 else D.fuse, writes := D.writes + 1, has := fun n => if n = i then some l else D.has n }
def DK.blown (D : DK) : DK := { D with off := true, fuse := -1 }

set_option maxHeartbeats 400000 in
theorem write_no (w : World) (p r : Nat) (D : DK) (i : Int) (b : Value) (h : DiskAt w p r D) (hc : D.code i ≠ 0) :
    Calls Try.prog 32 #[.pointer (some ⟨p, 0, none⟩), .int .i64 i, b] w fun e w' => e = .returned (.int .i64 (D.code i)) ∧ w = w' := by
  have hcs := h.cells
  have hk := check_calls w p r D i hcs
  have hb : (D.code i != 0) = true := by simpa using hc
  generalize D.code i = c at *
  have H := Lib.hid hk
  clear hk h hcs hc
  go_enter Try.func32, Try.ntmps32
  go_wp2_with (go_at_call 33; refine H.out.mono ?_; rintro e w' ⟨rfl, rfl⟩)
  go_ret
  exact ⟨rfl, rfl⟩

set_option maxHeartbeats 400000 in
theorem write_bytes (w : World) (p r : Nat) (D : DK) (i : Int) (a : Option Addr) (n c : Nat) (h : DiskAt w p r D) (hc : D.code i = 0) (hn : n ≠ 64) :
    Calls Try.prog 32 #[.pointer (some ⟨p, 0, none⟩), .int .i64 i, .slice a n c] w fun e w' => e = .returned (.int .i64 11) ∧ w = w' := by
  have hcs := h.cells
  have hk := check_calls w p r D i hcs
  rw [hc] at hk
  have hn' : ((n : Int) != 64) = true := by rw [bne_iff_ne]; omega
  have H := Lib.hid hk
  clear hk h hcs hc hn
  go_enter Try.func32, Try.ntmps32
  go_wp2_with (go_at_call 33; refine H.out.mono ?_; rintro e w' ⟨rfl, rfl⟩)
  go_ret
  exact ⟨rfl, rfl⟩
end Go.Proofs.Ytpmlmjbhgonegaa
