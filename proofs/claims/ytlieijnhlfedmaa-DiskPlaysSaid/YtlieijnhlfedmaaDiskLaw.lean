/- The law's helpers of chapter 1: kind, shown. -/
import Derived.Test.YtlieijnhlfedmaaDiskSt
namespace Go.Proofs.Ytlieijnhlfedmaa
open Go.RowKit

def kindOf (c : Int) (n : Int) : Int := if c < 0 then (-(c + 1)) % n else c % n

set_option maxHeartbeats 400000 in
theorem kind_calls (w : World) (c n : Int) (h1 : -9223372036854775808 ≤ c) (h2 : c ≤ 9223372036854775807) (hn : 0 < n) (hn2 : n ≤ 1000) :
    Calls Try.prog 10 #[.int .i64 c, .int .i64 n] w fun e w' => e = .returned (.int .i64 (kindOf c n)) ∧ w = w' := by
  unfold kindOf
  by_cases hc : c < 0
  · go_enter Try.func10, Try.ntmps10
    go_wp2
    go_ret
    refine ⟨ret_i ?_, rfl⟩
    show (-(c + 1).tmod n : Int) = _
    rw [← Int.neg_tmod, Int.tmod_eq_emod_of_nonneg (by omega)]
  · go_enter Try.func10, Try.ntmps10
    go_wp2
    go_ret
    exact ⟨rfl, rfl⟩

theorem kindOf_range (c n : Int) (hn : 0 < n) : 0 ≤ kindOf c n ∧ kindOf c n < n := by
  unfold kindOf
  split
  · exact ⟨Int.emod_nonneg _ (by omega), Int.emod_lt_of_pos _ hn⟩
  · exact ⟨Int.emod_nonneg _ (by omega), Int.emod_lt_of_pos _ hn⟩

set_option maxHeartbeats 400000 in
theorem full_calls (w : World) (c : UInt8) :
    Calls Try.prog 13 #[bv c] w fun e w' => e = .returned (.slice (some ⟨w.heap.size, 0, none⟩) 64 64) ∧ w' = w.alloc (.cells (bvs (List.replicate 64 c)) 5) := by
  have hmk : ∀ w, (Instr.makeSlice 22 (.int .i64 64) (.int .i64 64)).run Try.prog w = .ok (.slice (some ⟨w.heap.size, 0, none⟩) 64 64) (w.alloc (.cells (bvs (fillTo c 64 0)) 5)) := fun w => by rw [fillTo_zero]; kernel_rfl
  unfold bv
  go_enter Try.func13, Try.ntmps13
  go_wp2
  go_loopw [4] (fun i wr => ∃ k : Nat, k ≤ 64 ∧ i = .int .i64 k ∧ wr = w.alloc (.cells (bvs (fillTo c 64 k)) 5)) (fun i _ => 64 - (intOf i).toNat)
  case atStart => exact ⟨0, by omega, rfl, rfl⟩
  case round =>
    obtain ⟨k, hk, rfl, rfl⟩ := hrel
    by_cases hlt : k < 64
    · have hcell : (bvs (fillTo c 64 k))[k]? = some (bv 0) := by rw [bvs_get, fillTo_get c 64 k hlt]; rfl
      go_wp2
      go_roundw
      case rel => exact ⟨k + 1, by omega, by go_num, by rw [← fillTo_set c 64 k hlt, ← bvs_set]; rfl⟩
      case measure => simp [intOf]; omega
    · obtain rfl : k = 64 := by omega
      go_wp2
      go_ret
      exact ⟨rfl, by rw [fillTo_all]⟩

theorem full_st {B : Nat} {w0 w : World} {p r : Nat} {D : DK} (h : DSt B w0 w p r D) (c : UInt8) (n : Int) (hn : n = c.toNat) :
    Calls Try.prog 13 #[.int .u8 n] w fun e w' => ∃ b, e = .returned (.slice (some ⟨b, 0, none⟩) 64 64) ∧ RowAt w' ⟨b, 0, none⟩ (blockOf c) ∧ DSt B w0 w' p r D ∧ Only (fun _ => False) w w' ∧ w.heap.size ≤ b := by
  subst hn
  refine (full_calls w c).mono ?_
  rintro e w' ⟨rfl, rfl⟩
  exact ⟨_, rfl, .of_cells (heap_alloc_new _ _), h.same ((Only.refl _ w).alloc _), (Only.refl _ w).alloc _, Nat.le_refl _⟩

def sh1 : DK := ⟨2, false, -1, 1, fun n => if n = 1 then some (blockOf 1) else none⟩
def sh2 : DK := ⟨2, false, 1, 1, fun n => if n = 1 then some (blockOf 1) else none⟩
def sh3 : DK := ⟨2, false, 0, 2, fun n => if n = 0 then some (blockOf 2) else if n = 1 then some (blockOf 1) else none⟩
def sh4 : DK := ⟨2, true, -1, 2, fun n => if n = 0 then some (blockOf 2) else if n = 1 then some (blockOf 1) else none⟩
def sh5 : DK := ⟨2, false, -1, 2, fun n => if n = 0 then some (blockOf 2) else if n = 1 then some (blockOf 1) else none⟩
theorem sh_a : (⟨2, false, -1, 0, fun _ => none⟩ : DK).write 1 (blockOf 1) = (sh1, 0) := by rfl
theorem sh_b : sh1.write 2 (blockOf 1) = (sh1, 10) := by rfl
theorem sh_c : sh1.write 0 [] = (sh1, 11) := by rfl
theorem sh_d : sh1.fused 1 = sh2 := by rfl
theorem sh_e : sh2.write 0 (blockOf 2) = (sh3, 0) := by rfl
theorem sh_f : sh3.write 0 (blockOf 3) = (sh4, 2) := by rfl
theorem sh_g : sh4.booted = sh5 := by rfl
theorem sh_h : sh5.get 0 = blockOf 2 := by rfl

set_option maxHeartbeats 1000000 in
theorem shown_calls (w : World) :
    Calls Try.prog 8 #[] w fun e w' => e = .returned (.bool true) ∧ Below w.heap.size w w' := by
  go_enter Try.func8, Try.ntmps8
  go_wp2_with fail
  refine (new_st w.heap.size w w 2 (by omega) (by omega) (Nat.le_refl _) (Below.refl _ _)).mono ?_
  rintro e w1 ⟨p, r, rfl, s1, -, -, -⟩
  go_wp2_with fail
  refine (new_refuses _ 0 (by omega)).mono ?_
  rintro e w2 ⟨rfl, rfl⟩
  go_wp2_with fail
  refine (full_st s1 1 _ rfl).mono ?_
  rintro e w2 ⟨b1, rfl, r1, s2, -, -⟩
  go_wp2_with fail
  refine (write_st s2 1 _ _ 64 64 (blockOf_length _) (.of_row r1) ⟨by decide, by decide, by decide⟩).mono ?_
  rw [sh_a]
  rintro e w3 ⟨rfl, s3, -⟩
  clear s1 s2 r1
  go_wp2_with fail
  refine (full_st s3 1 _ rfl).mono ?_
  rintro e w4 ⟨b2, rfl, r1, s4, -, -⟩
  go_wp2_with fail
  refine (write_st s4 2 _ _ 64 64 (blockOf_length _) (.of_row r1) ⟨by decide, by decide, by decide⟩).mono ?_
  rw [sh_b]
  rintro e w5 ⟨rfl, s5, -⟩
  clear s3 s4 r1
  go_wp2_with fail
  refine (write_st s5 0 none [] 0 0 rfl (.nil _ _) ⟨by decide, by decide, by decide⟩).mono ?_
  rw [sh_c]
  rintro e w6 ⟨rfl, s6, -⟩
  clear s5
  go_wp2_with fail
  refine (fuse_st s6 1).mono ?_
  rw [sh_d]
  rintro e w7 ⟨rfl, s7, -⟩
  clear s6
  go_wp2_with fail
  refine (full_st s7 2 _ rfl).mono ?_
  rintro e w8 ⟨b3, rfl, r1, s8, -, -⟩
  go_wp2_with fail
  refine (write_st s8 0 _ _ 64 64 (blockOf_length _) (.of_row r1) ⟨by decide, by decide, by decide⟩).mono ?_
  rw [sh_e]
  rintro e w9 ⟨rfl, s9, -⟩
  clear s7 s8 r1
  go_wp2_with fail
  refine (full_st s9 3 _ rfl).mono ?_
  rintro e w10 ⟨b4, rfl, r1, s10, -, -⟩
  go_wp2_with fail
  refine (write_st s10 0 _ _ 64 64 (blockOf_length _) (.of_row r1) ⟨by decide, by decide, by decide⟩).mono ?_
  rw [sh_f]
  rintro e w11 ⟨rfl, s11, -⟩
  clear s9 s10 r1
  go_wp2_with fail
  refine (on_st s11).mono ?_
  rw [show (!sh4.off) = false from rfl]
  rintro e w12 ⟨rfl, rfl⟩
  go_wp2_with fail
  refine (boot_st s11).mono ?_
  rw [sh_g]
  rintro e w12 ⟨rfl, s12, -⟩
  clear s11
  go_wp2_with fail
  refine (read_st s12 0 rfl).mono ?_
  rw [sh_h]
  rintro e w13 ⟨b5, rfl, r2, -, s13, -, -⟩
  clear s12
  go_wp2_with fail
  have hconv := conv_any (blockOf 2) (blockOf_length 2)
  have hn : sh5.writes = 2 := rfl
  have r2d := r2.drew
  have s13d := s13.drew
  refine wp_region_grow (Only (fun _ => False)) (fun | 29 => some (fun v w' => ∃ b, v = .slice (some ⟨b, 0, none⟩) 64 64 ∧ RowAt w' ⟨b, 0, none⟩ (blockOf 2)) | 35 => some (fun v _ => v = .int .i64 2) | _ => none) (by kernel_rfl) (by kernel_rfl) (Only.refl _) (fun _ _ _ => Only.trans) ?_ ?_
  · intro i V hV v w1 w2 hr hv
    split at hV
    · cases hV
      obtain ⟨b, hb, hrow⟩ := hv
      exact ⟨b, hb, hrow.grow hr (by simp [blockOf])⟩
    · cases hV
      exact hv
    · cases hV
  simp only [List.zipIdx_cons, List.zipIdx_nil, Nat.zero_add, Nat.reduceAdd]
  iterate 28 (refine grow_det ?_ rfl (fun w' => ?_) ?_; rotate_left 1; (unfold Runs; go_simp; rfl); try simp only [Act.put, List.setIfInBounds_toArray, List.set_cons_zero, List.set_cons_succ])
  refine grow_read (.string (strOf (blockOf 2))) rfl (fun w' hr _ => ?_) ?_
  · have h1 := hconv b5 w' (r2d.grow hr (by simp [blockOf]))
    unfold Runs
    go_simp
  simp only [Act.put, List.setIfInBounds_toArray, List.set_cons_zero, List.set_cons_succ]
  refine grow_pred _ rfl (fun w' hr _ => ?_) (fun v => ?_)
  · have h1 := s13d.same hr
    unfold Gives gives
    go_simp
    refine (full_st h1 2 _ rfl).mono ?_
    rintro e w14 ⟨b6, rfl, r6, -, o14, -⟩
    exact ⟨_, rfl, o14, b6, rfl, r6⟩
  simp only [Act.put, List.setIfInBounds_toArray, List.set_cons_zero, List.set_cons_succ]
  refine grow_read (.string (strOf (blockOf 2))) rfl (fun w' hr hf => ?_) ?_
  · have h1 := hf 29 (by kernel_rfl)
    rw [upd_self] at h1
    obtain ⟨b6, rfl, r6⟩ := h1
    have h2 := hconv b6 w' r6
    unfold Runs
    go_simp
  simp only [Act.put, List.setIfInBounds_toArray, List.set_cons_zero, List.set_cons_succ]
  iterate 4 (refine grow_det ?_ rfl (fun w' => ?_) ?_; rotate_left 1; (unfold Runs; go_simp; rfl); try simp only [Act.put, List.setIfInBounds_toArray, List.set_cons_zero, List.set_cons_succ])
  refine grow_pred _ rfl (fun w' hr _ => ?_) (fun n => ?_)
  · have h1 := s13d.same hr
    unfold Gives gives
    go_simp
    refine (writes_st h1).mono ?_
    rintro e w14 ⟨rfl, rfl⟩
    first | exact ⟨_, rfl, Only.refl _ _, rfl⟩ | exact ⟨rfl, Only.refl _ _⟩ | (simp; exact Only.refl _ _)
  simp only [Act.put, List.setIfInBounds_toArray, List.set_cons_zero, List.set_cons_succ]
  refine grow_read (.bool true) rfl (fun w' hr hf => ?_) ?_
  · have h1 := hf 35 (by kernel_rfl)
    rw [upd_self] at h1
    subst h1
    unfold Runs
    go_simp
  simp only [Act.put, List.setIfInBounds_toArray, List.set_cons_zero, List.set_cons_succ]
  iterate 2 (refine grow_det ?_ rfl (fun w' => ?_) ?_; rotate_left 1; (unfold Runs; go_simp; rfl); try simp only [Act.put, List.setIfInBounds_toArray, List.set_cons_zero, List.set_cons_succ])
  refine grow_end (fun w' hr hf => ?_)
  clear hf
  go_wp2
  go_ret
  exact ⟨rfl, (s13d.same hr).below⟩
end Go.Proofs.Ytlieijnhlfedmaa
