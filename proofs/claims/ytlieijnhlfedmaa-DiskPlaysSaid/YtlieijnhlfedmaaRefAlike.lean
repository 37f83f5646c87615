/- Two disks, the program's and the document's, that are the same in plain words: alike says so. -/
import Derived.Test.YtlieijnhlfedmaaRefDiskC
namespace Go.Proofs.Ytlieijnhlfedmaa
open Go.RowKit

theorem len_st {B : Nat} {w0 w : World} {p r : Nat} {D : DK} (h : DSt B w0 w p r D) :
    Calls Try.prog 28 #[.pointer (some ⟨p, 0, none⟩)] w fun e w' => e = .returned (.int .i64 D.len) ∧ w = w' := by
  have c0 := cellOf h.disk.cells 0
  simp [diskCells] at c0
  clear h
  go_enter Try.func28, Try.ntmps28
  go_wp2
  go_ret
  exact ⟨rfl, rfl⟩
set_option maxHeartbeats 4000000 in
set_option maxRecDepth 100000 in
theorem alike_calls {B nb : Nat} {w0 w : World} {p r p2 q2 cap : Nat} {left : Int} {D : DK} (h : DSt B w0 w p r D) (hr : RefAt nb w p2 q2 cap left D) (i : Int) :
    Calls Try.prog 24 #[.pointer (some ⟨p, 0, none⟩), .pointer (some ⟨p2, 0, none⟩), .int .i64 i] w fun e w' => e = .returned (.bool true) ∧ Only (fun _ => False) w w' := by
  have H0 := Lib.hid h
  have R0 := Lib.hid hr
  clear h hr
  go_enter Try.func24, Try.ntmps24
  go_wp2_with fail
  refine (read_any H0.out i).mono ?_
  rintro e w1 ⟨a1, n1, c1, rfl, rfl, s1, d1, o1, -⟩
  have S1a := Lib.hid s1
  have H1 := Lib.hid d1
  have O1 := Lib.hid o1
  clear s1 d1 o1
  go_wp2_with fail
  refine (refRead_any w1 p2 q2 cap left D i (R0.out.only O1.out (fun b e => e.elim) (fun e => e) (fun e => e))).mono ?_
  rintro e w2 ⟨v, rfl, ⟨a2, n2, c2, rfl, rfl, s2, -⟩, o2⟩
  have S1 := Lib.hid (S1a.out.grow o2)
  have S2 := Lib.hid s2
  have HS := Lib.hid ((H1.out.same o2).drew)
  have HRF : Hid (RefAt nb w2.drew p2 q2 cap left D) := Lib.hid (R0.out.only ((O1.out.trans o2).drew) (fun b e => e.elim) (fun e => e) (fun e => e))
  have HO := Lib.hid ((O1.out.trans o2).drew)
  have S1 : Hid (SliceAt w2.drew a1 (D.shows i)) := Lib.hid (S1a.out.grow o2.drew)
  have S2 : Hid (SliceAt w2.drew a2 (D.shows i)) := Lib.hid (s2.grow ((Only.refl _ w2).drew))
  have hmax : max D.len 0 = D.len := by have := R0.out.lo; omega
  have hcast : ((D.len.toNat : Nat) : Int) = D.len := by have := R0.out.lo; omega
  clear s2 o2 S1a H0 R0 H1 O1
  go_wp2_with fail
  refine wp_region_grow (Only (fun _ => False)) (fun | 12 => some (fun v _ => v = .bool (!D.off)) | 22 => some (fun v _ => v = .int .i64 D.writes) | 31 => some (fun v _ => v = .int .i64 D.len) | _ => none) (by kernel_rfl) (by kernel_rfl) (Only.refl _) (fun _ _ _ => Only.trans) ?_ ?_
  · intro i V hV v w1 w2 hr hv
    split at hV
    · cases hV
      exact hv
    · cases hV
      exact hv
    · cases hV
      exact hv
    · cases hV
  simp only [List.zipIdx_cons, List.zipIdx_nil, Nat.zero_add, Nat.reduceAdd]
  iterate 1 (refine grow_det ?_ rfl (fun w' => ?_) ?_; rotate_left 1; (unfold Runs; go_simp; rfl); try simp only [Act.put, List.setIfInBounds_toArray, List.set_cons_zero, List.set_cons_succ])
  refine grow_read (.string (strOf (D.shows i))) rfl (fun w' hr hf => ?_) ?_
  · have h1 := conv_slice (D.shows i) a1 _ c1 rfl w' ((S1.out).grow hr)
    unfold Runs
    go_simp
  simp only [Act.put, List.setIfInBounds_toArray, List.set_cons_zero, List.set_cons_succ]
  iterate 1 (refine grow_det ?_ rfl (fun w' => ?_) ?_; rotate_left 1; (unfold Runs; go_simp; rfl); try simp only [Act.put, List.setIfInBounds_toArray, List.set_cons_zero, List.set_cons_succ])
  refine grow_read (.string (strOf (D.shows i))) rfl (fun w' hr hf => ?_) ?_
  · have h1 := conv_slice (D.shows i) a2 _ c2 rfl w' ((S2.out).grow hr)
    unfold Runs
    go_simp
  simp only [Act.put, List.setIfInBounds_toArray, List.set_cons_zero, List.set_cons_succ]
  iterate 8 (refine grow_det ?_ rfl (fun w' => ?_) ?_; rotate_left 1; (unfold Runs; go_simp; rfl); try simp only [Act.put, List.setIfInBounds_toArray, List.set_cons_zero, List.set_cons_succ])
  refine grow_pred _ rfl (fun w' hr hf => ?_) (fun v => ?_)
  · have h1 := HS.out.same hr
    unfold Gives gives
    go_simp
    refine (on_st h1).mono ?_
    rintro e w14 ⟨rfl, rfl⟩
    first | exact ⟨_, rfl, Only.refl _ _, rfl⟩ | exact ⟨rfl, Only.refl _ _⟩
  simp only [Act.put, List.setIfInBounds_toArray, List.set_cons_zero, List.set_cons_succ]
  iterate 3 (refine grow_det ?_ rfl (fun w' => ?_) ?_; rotate_left 1; (unfold Runs; go_simp; rfl); try simp only [Act.put, List.setIfInBounds_toArray, List.set_cons_zero, List.set_cons_succ])
  refine grow_read (.bool D.off) rfl (fun w' hr hf => ?_) ?_
  · have h1 := cellOf (HRF.out.only hr (fun b e => e.elim) (fun e => e) (fun e => e)).cells 1
    simp [refCells] at h1
    unfold Runs
    go_simp
  simp only [Act.put, List.setIfInBounds_toArray, List.set_cons_zero, List.set_cons_succ]
  iterate 1 (refine grow_det ?_ rfl (fun w' => ?_) ?_; rotate_left 1; (unfold Runs; go_simp; rfl); try simp only [Act.put, List.setIfInBounds_toArray, List.set_cons_zero, List.set_cons_succ])
  refine grow_read (.bool true) rfl (fun w' hr hf => ?_) ?_
  · have h1 := hf 12 (by kernel_rfl)
    rw [upd_self] at h1
    subst h1
    unfold Runs
    go_simp
  simp only [Act.put, List.setIfInBounds_toArray, List.set_cons_zero, List.set_cons_succ]
  iterate 3 (refine grow_det ?_ rfl (fun w' => ?_) ?_; rotate_left 1; (unfold Runs; go_simp; rfl); try simp only [Act.put, List.setIfInBounds_toArray, List.set_cons_zero, List.set_cons_succ])
  refine grow_pred _ rfl (fun w' hr hf => ?_) (fun v => ?_)
  · have h1 := HS.out.same hr
    unfold Gives gives
    go_simp
    refine (writes_st h1).mono ?_
    rintro e w14 ⟨rfl, rfl⟩
    first | exact ⟨_, rfl, Only.refl _ _, rfl⟩ | exact ⟨rfl, Only.refl _ _⟩
  simp only [Act.put, List.setIfInBounds_toArray, List.set_cons_zero, List.set_cons_succ]
  iterate 3 (refine grow_det ?_ rfl (fun w' => ?_) ?_; rotate_left 1; (unfold Runs; go_simp; rfl); try simp only [Act.put, List.setIfInBounds_toArray, List.set_cons_zero, List.set_cons_succ])
  refine grow_read (.int .i64 D.writes) rfl (fun w' hr hf => ?_) ?_
  · have h1 := cellOf (HRF.out.only hr (fun b e => e.elim) (fun e => e) (fun e => e)).cells 4
    simp [refCells] at h1
    unfold Runs
    go_simp
  simp only [Act.put, List.setIfInBounds_toArray, List.set_cons_zero, List.set_cons_succ]
  refine grow_read (.bool true) rfl (fun w' hr hf => ?_) ?_
  · have h1 := hf 22 (by kernel_rfl)
    rw [upd_self] at h1
    subst h1
    unfold Runs
    go_simp
  simp only [Act.put, List.setIfInBounds_toArray, List.set_cons_zero, List.set_cons_succ]
  iterate 3 (refine grow_det ?_ rfl (fun w' => ?_) ?_; rotate_left 1; (unfold Runs; go_simp; rfl); try simp only [Act.put, List.setIfInBounds_toArray, List.set_cons_zero, List.set_cons_succ])
  refine grow_pred _ rfl (fun w' hr hf => ?_) (fun v => ?_)
  · have h1 := HS.out.same hr
    unfold Gives gives
    go_simp
    refine (len_st h1).mono ?_
    rintro e w14 ⟨rfl, rfl⟩
    first | exact ⟨_, rfl, Only.refl _ _, rfl⟩ | exact ⟨rfl, Only.refl _ _⟩
  simp only [Act.put, List.setIfInBounds_toArray, List.set_cons_zero, List.set_cons_succ]
  iterate 3 (refine grow_det ?_ rfl (fun w' => ?_) ?_; rotate_left 1; (unfold Runs; go_simp; rfl); try simp only [Act.put, List.setIfInBounds_toArray, List.set_cons_zero, List.set_cons_succ])
  refine grow_read (.slice (some ⟨q2, 0, none⟩) D.len.toNat cap) rfl (fun w' hr hf => ?_) ?_
  · have h1 := cellOf (HRF.out.only hr (fun b e => e.elim) (fun e => e) (fun e => e)).cells 0
    simp [refCells] at h1
    unfold Runs
    go_simp
  simp only [Act.put, List.setIfInBounds_toArray, List.set_cons_zero, List.set_cons_succ]
  iterate 1 (refine grow_det ?_ rfl (fun w' => ?_) ?_; rotate_left 1; (unfold Runs; go_simp; rfl); try simp only [Act.put, List.setIfInBounds_toArray, List.set_cons_zero, List.set_cons_succ])
  refine grow_read (.bool true) rfl (fun w' hr hf => ?_) ?_
  · have h1 := hf 31 (by kernel_rfl)
    rw [upd_self] at h1
    subst h1
    unfold Runs
    go_simp
  simp only [Act.put, List.setIfInBounds_toArray, List.set_cons_zero, List.set_cons_succ]
  iterate 2 (refine grow_det ?_ rfl (fun w' => ?_) ?_; rotate_left 1; (unfold Runs; go_simp; rfl); try simp only [Act.put, List.setIfInBounds_toArray, List.set_cons_zero, List.set_cons_succ])
  refine grow_end (fun w9 hr hf => ?_)
  clear hf
  have O9 := Lib.hid hr
  go_wp2
  go_ret
  exact ⟨rfl, HO.out.trans O9.out⟩
end Go.Proofs.Ytlieijnhlfedmaa
