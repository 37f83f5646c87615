/- The law's helpers of chapter 1: kind, shown. -/
import Derived.Test.YtlieijnhlfedmaaDiskB
import Derived.Test.YtlieijnhlfedmaaGrow
namespace Go.Proofs.Ytlieijnhlfedmaa
open Go.RowKit

def kindOf (c : Int) (n : Int) : Int := if c < 0 then (-(c + 1)) % n else c % n

set_option maxHeartbeats 400000 in
theorem kind_calls (w : World) (c n : Int) (h1 : -9223372036854775808 ≤ c) (h2 : c ≤ 9223372036854775807) (hn : 0 < n) (hn2 : n ≤ 1000) :
    Calls Try.prog 10 #[.int .i64 c, .int .i64 n] w fun e w' => e = .returned (.int .i64 (kindOf c n)) ∧ w = w' := by
  unfold kindOf
  by_cases hc : c < 0
  · go_enter Try.func10, Try.ntmps10
    go_wp2
    go_ret
    refine ⟨ret_i ?_, rfl⟩
    show (-(c + 1).tmod n : Int) = _
    rw [← Int.neg_tmod, Int.tmod_eq_emod_of_nonneg (by omega)]
  · go_enter Try.func10, Try.ntmps10
    go_wp2
    go_ret
    exact ⟨rfl, rfl⟩

theorem kindOf_range (c n : Int) (hn : 0 < n) : 0 ≤ kindOf c n ∧ kindOf c n < n := by
  unfold kindOf
  split
  · exact ⟨Int.emod_nonneg _ (by omega), Int.emod_lt_of_pos _ hn⟩
  · exact ⟨Int.emod_nonneg _ (by omega), Int.emod_lt_of_pos _ hn⟩

/-- A block of one byte. -/
def blockOf (c : UInt8) : List UInt8 := List.replicate 64 c
theorem blockOf_length (c : UInt8) : (blockOf c).length = 64 := by simp [blockOf]
theorem blockOf_inj {a b : UInt8} (h : blockOf a = blockOf b) : a = b := by
  have := congrArg (fun l => l[0]?) h
  simpa [blockOf, List.replicate_succ] using this

/-- A disk of the call's own: its blocks lie from B on; below B the world is as it was. -/
structure DSt (B : Nat) (w0 w : World) (p r : Nat) (D : DK) : Prop where
  disk : DiskAt w p r D
  below : Below B w0 w
  hp : B ≤ p
  hr : B ≤ r
  hB : B ≤ w.heap.size

abbrev Two (p r : Nat) : Nat → Prop := fun k => k = p ∨ k = r

theorem DSt.next {B : Nat} {w0 w w' : World} {p r : Nat} {D D' : DK} (h : DSt B w0 w p r D) (k : Only (Two p r) w w') (hd : DiskAt w' p r D') : DSt B w0 w' p r D' :=
  ⟨hd, k.below h.below h.hB (fun i hi => by rcases hi with rfl | rfl; exact h.hp; exact h.hr), h.hp, h.hr, Nat.le_trans h.hB k.size⟩
theorem DSt.same {B : Nat} {w0 w w' : World} {p r : Nat} {D : DK} (h : DSt B w0 w p r D) (k : Only (fun _ => False) w w') : DSt B w0 w' p r D :=
  h.next (k.mono (fun _ _ h => h.elim)) (h.disk.only k (fun h => h) (fun h => h))
/-- A store into a block of the call's own that is not the disk's. -/
theorem DSt.put {B : Nat} {w0 w : World} {p r : Nat} {D : DK} (h : DSt B w0 w p r D) (b o : Nat) (v : Value) (hB : B ≤ b) (hp : b ≠ p) (hr : b ≠ r) : DSt B w0 (w.setCell ⟨b, o, none⟩ v) p r D :=
  ⟨h.disk.only ((Only.refl _ w).put o v) (fun e => hp e.symm) (fun e => hr e.symm), h.below.setCell hB v, h.hp, h.hr, Nat.le_trans h.hB (by simp [World.setCell])⟩
theorem Only.two {w w' : World} (p r : Nat) (k : Only (fun _ => False) w w') : Only (Two p r) w w' := k.mono (fun _ _ h => h.elim)

theorem new_st (B : Nat) (w0 w : World) (n : Int) (h1 : 1 ≤ n) (h2 : n ≤ 4096) (hB : B ≤ w.heap.size) (hb : Below B w0 w) :
    Calls Try.prog 9 #[.int .i64 n] w fun e w' => ∃ p r, e = .returned (.tuple #[.pointer (some ⟨p, 0, none⟩), .int .i64 0]) ∧ DSt B w0 w' p r ⟨n, false, -1, 0, fun _ => none⟩ ∧ Only (fun _ => False) w w' ∧ w.heap.size ≤ p ∧ w.heap.size ≤ r := by
  refine (new_calls w n h1 h2).mono ?_
  rintro e w' ⟨rfl, hd, ho⟩
  exact ⟨_, _, rfl, ⟨hd, ho.below hb hB (fun _ h => h.elim), by omega, hB, Nat.le_trans hB ho.size⟩, ho, by omega, by omega⟩

theorem full_st {B : Nat} {w0 w : World} {p r : Nat} {D : DK} (h : DSt B w0 w p r D) (c : UInt8) (n : Int) (hn : n = c.toNat) :
    Calls Try.prog 13 #[.int .u8 n] w fun e w' => ∃ b, e = .returned (.slice (some ⟨b, 0, none⟩) 64 64) ∧ RowAt w' ⟨b, 0, none⟩ (blockOf c) ∧ DSt B w0 w' p r D ∧ Only (fun _ => False) w w' ∧ w.heap.size ≤ b := by
  subst hn
  refine (full_calls w c).mono ?_
  rintro e w' ⟨rfl, rfl⟩
  exact ⟨_, rfl, .of_cells (heap_alloc_new _ _), h.same ((Only.refl _ w).alloc _), (Only.refl _ w).alloc _, Nat.le_refl _⟩

theorem DK.write_len (D : DK) (i : Int) (l : List UInt8) : (D.write i l).1.len = D.len := by
  unfold DK.write
  split
  · rfl
  · split
    · rfl
    · split <;> rfl

/-- Bounds that hold of any disk within its first so many writes. -/
structure DK.fine (D : DK) : Prop where
  fuse : D.fuse ≤ 9223372036854775807
  lo : 0 ≤ D.writes
  hi : D.writes < 4611686018427387904

theorem write_st {B : Nat} {w0 w : World} {p r : Nat} {D : DK} (h : DSt B w0 w p r D) (i : Int) (a : Option Addr) (l : List UInt8) (n c : Nat) (hn : l.length = n) (hr : SliceAt w a l) (hf : D.fine) :
    Calls Try.prog 12 #[.pointer (some ⟨p, 0, none⟩), .int .i64 i, .slice a n c] w fun e w' => e = .returned (.int .i64 (D.write i l).2) ∧ DSt B w0 w' p r (D.write i l).1 ∧ Only (Two p r) w w' := by
  subst hn
  refine (write_calls w p r D i a l c h.disk hr hf.fuse hf.lo hf.hi).mono ?_
  rintro e w' ⟨rfl, hd, ho⟩
  exact ⟨rfl, h.next ho hd, ho⟩

theorem read_st {B : Nat} {w0 w : World} {p r : Nat} {D : DK} (h : DSt B w0 w p r D) (i : Int) (hc : D.code i = 0) :
    Calls Try.prog 15 #[.pointer (some ⟨p, 0, none⟩), .int .i64 i] w fun e w' => ∃ b, e = .returned (.tuple #[.slice (some ⟨b, 0, none⟩) 64 64, .int .i64 0]) ∧ RowAt w' ⟨b, 0, none⟩ (D.get i) ∧ (D.get i).length = 64 ∧ DSt B w0 w' p r D ∧ Only (fun _ => False) w w' ∧ w.heap.size ≤ b := by
  refine (read_calls w p r D i h.disk hc).mono ?_
  rintro e w' ⟨rfl, rfl⟩
  exact ⟨_, rfl, .of_cells (heap_alloc_new _ _), DK.get_long h.disk i, h.same ((Only.refl _ w).alloc _), (Only.refl _ w).alloc _, Nat.le_refl _⟩

theorem boot_st {B : Nat} {w0 w : World} {p r : Nat} {D : DK} (h : DSt B w0 w p r D) :
    Calls Try.prog 17 #[.pointer (some ⟨p, 0, none⟩)] w fun e w' => e = .returned (.tuple #[]) ∧ DSt B w0 w' p r D.booted ∧ Only (Two p r) w w' := by
  refine (boot_calls w p r D h.disk).mono ?_
  rintro e w' ⟨rfl, hd, ho⟩
  have ho' : Only (Two p r) w w' := ho.mono (fun _ _ => Or.inl)
  exact ⟨rfl, h.next ho' hd, ho'⟩

theorem fuse_st {B : Nat} {w0 w : World} {p r : Nat} {D : DK} (h : DSt B w0 w p r D) (i : Int) :
    Calls Try.prog 11 #[.pointer (some ⟨p, 0, none⟩), .int .i64 i] w fun e w' => e = .returned (.tuple #[]) ∧ DSt B w0 w' p r (D.fused i) ∧ Only (Two p r) w w' := by
  refine (fuse_calls w p r D i h.disk).mono ?_
  rintro e w' ⟨rfl, hd, ho⟩
  have ho' : Only (Two p r) w w' := ho.mono (fun _ _ => Or.inl)
  exact ⟨rfl, h.next ho' hd, ho'⟩

theorem on_st {B : Nat} {w0 w : World} {p r : Nat} {D : DK} (h : DSt B w0 w p r D) :
    Calls Try.prog 14 #[.pointer (some ⟨p, 0, none⟩)] w fun e w' => e = .returned (.bool (!D.off)) ∧ w = w' := on_calls w p r D h.disk
theorem writes_st {B : Nat} {w0 w : World} {p r : Nat} {D : DK} (h : DSt B w0 w p r D) :
    Calls Try.prog 16 #[.pointer (some ⟨p, 0, none⟩)] w fun e w' => e = .returned (.int .i64 D.writes) ∧ w = w' := writes_calls w p r D h.disk

theorem RowAt.two {w w' : World} {B p r b : Nat} {w0 : World} {D : DK} {l : List UInt8} (h : RowAt w ⟨b, 0, none⟩ l) (hs : DSt B w0 w p r D) (k : Only (Two p r) w w') (hl : 0 < l.length) : RowAt w' ⟨b, 0, none⟩ l :=
  h.only k (fun e => by have := hs.disk.row_ne h hl; rcases e with e | e; exact this.1 e; exact this.2 e) (h.lt hl)

theorem RowAt.grow {w w' : World} {b : Nat} {l : List UInt8} (h : RowAt w ⟨b, 0, none⟩ l) (k : Only (fun _ => False) w w') (hl : 0 < l.length) : RowAt w' ⟨b, 0, none⟩ l :=
  h.only k (fun e => e) (h.lt hl)
theorem RowAt.drew {w : World} {a : Addr} {l : List UInt8} (h : RowAt w a l) : RowAt w.drew a l := h
theorem DSt.drew {B : Nat} {w0 w : World} {p r : Nat} {D : DK} (h : DSt B w0 w p r D) : DSt B w0 w.drew p r D := ⟨⟨h.disk.cells, h.disk.map, h.disk.long⟩, h.below.drew, h.hp, h.hr, h.hB⟩

def sh1 : DK := ⟨2, false, -1, 1, fun n => if n = 1 then some (blockOf 1) else none⟩
def sh2 : DK := ⟨2, false, 1, 1, fun n => if n = 1 then some (blockOf 1) else none⟩
def sh3 : DK := ⟨2, false, 0, 2, fun n => if n = 0 then some (blockOf 2) else if n = 1 then some (blockOf 1) else none⟩
def sh4 : DK := ⟨2, true, -1, 2, fun n => if n = 0 then some (blockOf 2) else if n = 1 then some (blockOf 1) else none⟩
def sh5 : DK := ⟨2, false, -1, 2, fun n => if n = 0 then some (blockOf 2) else if n = 1 then some (blockOf 1) else none⟩
theorem sh_a : (⟨2, false, -1, 0, fun _ => none⟩ : DK).write 1 (blockOf 1) = (sh1, 0) := by rfl
theorem sh_b : sh1.write 2 (blockOf 1) = (sh1, 10) := by rfl
theorem sh_c : sh1.write 0 [] = (sh1, 11) := by rfl
theorem sh_d : sh1.fused 1 = sh2 := by rfl
theorem sh_e : sh2.write 0 (blockOf 2) = (sh3, 0) := by rfl
theorem sh_f : sh3.write 0 (blockOf 3) = (sh4, 2) := by rfl
theorem sh_g : sh4.booted = sh5 := by rfl
theorem sh_h : sh5.get 0 = blockOf 2 := by rfl

theorem conv_any (l : List UInt8) (hl : l.length = 64) (b : Nat) (w : World) (h : RowAt w ⟨b, 0, none⟩ l) : (convert 22 9 (.slice (some ⟨b, 0, none⟩) 64 64)).run Try.prog w = .ok (.string (strOf l)) w :=
  run_convert_row Try.underlying22 Try.underlying5 Try.underlying9 64 64 hl h

set_option maxHeartbeats 1000000 in
theorem shown_calls (w : World) :
    Calls Try.prog 8 #[] w fun e w' => e = .returned (.bool true) ∧ Below w.heap.size w w' := by
  go_enter Try.func8, Try.ntmps8
  go_wp2_with fail
  refine (new_st w.heap.size w w 2 (by omega) (by omega) (Nat.le_refl _) (Below.refl _ _)).mono ?_
  rintro e w1 ⟨p, r, rfl, s1, -, -, -⟩
  go_wp2_with fail
  refine (new_refuses _ 0 (by omega)).mono ?_
  rintro e w2 ⟨rfl, rfl⟩
  go_wp2_with fail
  refine (full_st s1 1 _ rfl).mono ?_
  rintro e w2 ⟨b1, rfl, r1, s2, -, -⟩
  go_wp2_with fail
  refine (write_st s2 1 _ _ 64 64 (blockOf_length _) (.of_row r1) ⟨by decide, by decide, by decide⟩).mono ?_
  rw [sh_a]
  rintro e w3 ⟨rfl, s3, -⟩
  clear s1 s2 r1
  go_wp2_with fail
  refine (full_st s3 1 _ rfl).mono ?_
  rintro e w4 ⟨b2, rfl, r1, s4, -, -⟩
  go_wp2_with fail
  refine (write_st s4 2 _ _ 64 64 (blockOf_length _) (.of_row r1) ⟨by decide, by decide, by decide⟩).mono ?_
  rw [sh_b]
  rintro e w5 ⟨rfl, s5, -⟩
  clear s3 s4 r1
  go_wp2_with fail
  refine (write_st s5 0 none [] 0 0 rfl (.nil _ _) ⟨by decide, by decide, by decide⟩).mono ?_
  rw [sh_c]
  rintro e w6 ⟨rfl, s6, -⟩
  clear s5
  go_wp2_with fail
  refine (fuse_st s6 1).mono ?_
  rw [sh_d]
  rintro e w7 ⟨rfl, s7, -⟩
  clear s6
  go_wp2_with fail
  refine (full_st s7 2 _ rfl).mono ?_
  rintro e w8 ⟨b3, rfl, r1, s8, -, -⟩
  go_wp2_with fail
  refine (write_st s8 0 _ _ 64 64 (blockOf_length _) (.of_row r1) ⟨by decide, by decide, by decide⟩).mono ?_
  rw [sh_e]
  rintro e w9 ⟨rfl, s9, -⟩
  clear s7 s8 r1
  go_wp2_with fail
  refine (full_st s9 3 _ rfl).mono ?_
  rintro e w10 ⟨b4, rfl, r1, s10, -, -⟩
  go_wp2_with fail
  refine (write_st s10 0 _ _ 64 64 (blockOf_length _) (.of_row r1) ⟨by decide, by decide, by decide⟩).mono ?_
  rw [sh_f]
  rintro e w11 ⟨rfl, s11, -⟩
  clear s9 s10 r1
  go_wp2_with fail
  refine (on_st s11).mono ?_
  rw [show (!sh4.off) = false from rfl]
  rintro e w12 ⟨rfl, rfl⟩
  go_wp2_with fail
  refine (boot_st s11).mono ?_
  rw [sh_g]
  rintro e w12 ⟨rfl, s12, -⟩
  clear s11
  go_wp2_with fail
  refine (read_st s12 0 rfl).mono ?_
  rw [sh_h]
  rintro e w13 ⟨b5, rfl, r2, -, s13, -, -⟩
  clear s12
  go_wp2_with fail
  have hconv := conv_any (blockOf 2) (blockOf_length 2)
  have hn : sh5.writes = 2 := rfl
  have r2d := r2.drew
  have s13d := s13.drew
  refine wp_region_grow (Only (fun _ => False)) (fun | 29 => some (fun v w' => ∃ b, v = .slice (some ⟨b, 0, none⟩) 64 64 ∧ RowAt w' ⟨b, 0, none⟩ (blockOf 2)) | 35 => some (fun v _ => v = .int .i64 2) | _ => none) (by kernel_rfl) (by kernel_rfl) (Only.refl _) (fun _ _ _ => Only.trans) ?_ ?_
  · intro i V hV v w1 w2 hr hv
    split at hV
    · cases hV
      obtain ⟨b, hb, hrow⟩ := hv
      exact ⟨b, hb, hrow.grow hr (by simp [blockOf])⟩
    · cases hV
      exact hv
    · cases hV
  simp only [List.zipIdx_cons, List.zipIdx_nil, Nat.zero_add, Nat.reduceAdd]
  iterate 28 (refine grow_det ?_ rfl (fun w' => ?_) ?_; rotate_left 1; (unfold Runs; go_simp; rfl); try simp only [Act.put, List.setIfInBounds_toArray, List.set_cons_zero, List.set_cons_succ])
  refine grow_read (.string (strOf (blockOf 2))) rfl (fun w' hr _ => ?_) ?_
  · have h1 := hconv b5 w' (r2d.grow hr (by simp [blockOf]))
    unfold Runs
    go_simp
  simp only [Act.put, List.setIfInBounds_toArray, List.set_cons_zero, List.set_cons_succ]
  refine grow_pred _ rfl (fun w' hr _ => ?_) (fun v => ?_)
  · have h1 := s13d.same hr
    unfold Gives gives
    go_simp
    refine (full_st h1 2 _ rfl).mono ?_
    rintro e w14 ⟨b6, rfl, r6, -, o14, -⟩
    exact ⟨_, rfl, o14, b6, rfl, r6⟩
  simp only [Act.put, List.setIfInBounds_toArray, List.set_cons_zero, List.set_cons_succ]
  refine grow_read (.string (strOf (blockOf 2))) rfl (fun w' hr hf => ?_) ?_
  · have h1 := hf 29 (by kernel_rfl)
    rw [upd_self] at h1
    obtain ⟨b6, rfl, r6⟩ := h1
    have h2 := hconv b6 w' r6
    unfold Runs
    go_simp
  simp only [Act.put, List.setIfInBounds_toArray, List.set_cons_zero, List.set_cons_succ]
  iterate 4 (refine grow_det ?_ rfl (fun w' => ?_) ?_; rotate_left 1; (unfold Runs; go_simp; rfl); try simp only [Act.put, List.setIfInBounds_toArray, List.set_cons_zero, List.set_cons_succ])
  refine grow_pred _ rfl (fun w' hr _ => ?_) (fun n => ?_)
  · have h1 := s13d.same hr
    unfold Gives gives
    go_simp
    refine (writes_st h1).mono ?_
    rintro e w14 ⟨rfl, rfl⟩
    first | exact ⟨_, rfl, Only.refl _ _, rfl⟩ | exact ⟨rfl, Only.refl _ _⟩ | (simp; exact Only.refl _ _)
  simp only [Act.put, List.setIfInBounds_toArray, List.set_cons_zero, List.set_cons_succ]
  refine grow_read (.bool true) rfl (fun w' hr hf => ?_) ?_
  · have h1 := hf 35 (by kernel_rfl)
    rw [upd_self] at h1
    subst h1
    unfold Runs
    go_simp
  simp only [Act.put, List.setIfInBounds_toArray, List.set_cons_zero, List.set_cons_succ]
  iterate 2 (refine grow_det ?_ rfl (fun w' => ?_) ?_; rotate_left 1; (unfold Runs; go_simp; rfl); try simp only [Act.put, List.setIfInBounds_toArray, List.set_cons_zero, List.set_cons_succ])
  refine grow_end (fun w' hr hf => ?_)
  clear hf
  go_wp2
  go_ret
  exact ⟨rfl, (s13d.same hr).below⟩
end Go.Proofs.Ytlieijnhlfedmaa
