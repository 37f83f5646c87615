/- Contract of the journal's place: where a block of the group at hand goes. -/
import Derived.Test.YtpmlmjbhgonegaaJournal
namespace Go.Proofs.Ytpmlmjbhgonegaa
open Go.RowKit

/-- What place answers. -/
def jPlace (D : DK) (at_ : Int) (i : Nat) : Int × Int :=
  if D.code (at_ + 1 + (i / 32 : Nat)) = 0 then ((((D.get (at_ + 1 + (i / 32 : Nat))).getD (i % 32 * 2) 0).toNat * 256 + ((D.get (at_ + 1 + (i / 32 : Nat))).getD (i % 32 * 2 + 1) 0).toNat : Nat), 0)
  else (0, D.code (at_ + 1 + (i / 32 : Nat)))

theorem wrap_ofInt (n : Int) : BitVec.ofInt 64 (IntKind.i64.wrap n) = BitVec.ofInt 64 n := by
  apply BitVec.eq_of_toNat_eq
  rw [BitVec.toNat_ofInt, BitVec.toNat_ofInt, IntKind.wrap_i64]
  congr 1
  omega

theorem bits_or_byte (g : Int) (b : Nat) (hb : b < 256) : bits .or .i64 (IntKind.i64.wrap (g * 256)) (b : Int) = IntKind.i64.wrap (g * 256 + b) := by
  have h1 : (BitVec.ofInt 64 (g * 256)).toNat = ((g % 72057594037927936).toNat) <<< 8 := by
    rw [BitVec.toNat_ofInt, Nat.shiftLeft_eq]
    omega
  have h2 : (BitVec.ofInt 64 (b : Int)).toNat = b := by
    rw [BitVec.ofInt_natCast, BitVec.toNat_ofNat]; exact Nat.mod_eq_of_lt (by omega)
  show IntKind.i64.wrap ((BitVec.ofInt 64 (IntKind.i64.wrap (g * 256)) ||| BitVec.ofInt 64 (b : Int)).toNat : Int) = _
  rw [wrap_ofInt, BitVec.toNat_or, h1, h2, ← Nat.shiftLeft_add_eq_or_of_lt (by simpa using hb), Nat.shiftLeft_eq, IntKind.wrap_i64, IntKind.wrap_i64]
  omega

theorem some_kept {w w' : World} (h : Only (fun _ => False) w w') {p : Addr} {v : Value} (hv : w.cell? p = some v) : w'.cell? p = some v :=
  (h.cell (block_lt_of_cell hv) (fun e => e)).trans hv

set_option maxRecDepth 100000 in
set_option maxHeartbeats 1000000 in
theorem place_calls {B : Nat} {w0 w : World} {p r : Nat} {D : DK} {jb : Nat} {at_ g : Int} (h : JSt B w0 w p r D jb at_ g) (i : Nat) (hi : i < 192) (ha : 0 ≤ at_) (ha2 : at_ ≤ 4096) :
    Calls Try.prog 36 #[.pointer (some ⟨jb, 0, none⟩), .int .i64 (i : Int)] w fun e w' => e = .returned (.tuple #[.int .i64 (jPlace D at_ i).1, .int .i64 (jPlace D at_ i).2]) ∧ JSt B w0 w' p r D jb at_ g ∧ Only (fun _ => False) w w' := by
  have hquo : ((i : Int) / 32) = ((i / 32 : Nat) : Int) := by omega
  have HI := Lib.hid (show at_ + 1 + (i : Int) / 32 = at_ + 1 + ((i / 32 : Nat) : Int) from by omega)
  have hw1 : IntKind.i64.wrap (at_ + 1) = at_ + 1 := IntWalk.i64_in _ (by omega)
  have hw2 : IntKind.i64.wrap (at_ + 1 + (i : Int) / 32) = at_ + 1 + (i : Int) / 32 := IntWalk.i64_in _ (by omega)
  have hw0 : IntKind.i64.wrap ((i : Int) / 32) = (i : Int) / 32 := IntWalk.i64_in _ (by omega)
  have HQ := Lib.hid hquo
  clear hquo
  have J := Lib.hid h.drew
  have J0 := Lib.hid h
  clear h
  go_enter Try.func36, Try.ntmps36
  go_wp2_with fail
  refine wp_region_grow (Only (fun _ => False)) (fun | 12 => some (ReadRes D (at_ + 1 + (i / 32 : Nat))) | _ => none) (by kernel_rfl) (by kernel_rfl) (Only.refl _) (fun _ _ _ => Only.trans) ?_ ?_
  · intro i V hV v w1 w2 hr hv
    split at hV
    · cases hV
      exact hv.grow hr
    · cases hV
  simp only [List.zipIdx_cons, List.zipIdx_nil, Nat.zero_add, Nat.reduceAdd]
  iterate 3 (refine grow_det ?_ rfl (fun w' => ?_) ?_; rotate_left 1; (unfold Runs; go_simp; rfl); try simp only [Act.put, List.setIfInBounds_toArray, List.set_cons_zero, List.set_cons_succ])
  refine grow_read (.pointer (some ⟨p, 0, none⟩)) rfl (fun w' hr hf => ?_) ?_
  · have h1 := cellOf (J.out.same hr).cells 0
    simp [jCells] at h1
    unfold Runs
    go_simp
  simp only [Act.put, List.setIfInBounds_toArray, List.set_cons_zero, List.set_cons_succ]
  iterate 3 (refine grow_det ?_ rfl (fun w' => ?_) ?_; rotate_left 1; (unfold Runs; go_simp; rfl); try simp only [Act.put, List.setIfInBounds_toArray, List.set_cons_zero, List.set_cons_succ])
  refine grow_read (.int .i64 at_) rfl (fun w' hr hf => ?_) ?_
  · have h1 := cellOf (J.out.same hr).cells 1
    simp [jCells] at h1
    unfold Runs
    go_simp
  simp only [Act.put, List.setIfInBounds_toArray, List.set_cons_zero, List.set_cons_succ]
  iterate 4 (refine grow_det ?_ rfl (fun w' => ?_) ?_; rotate_left 1; (unfold Runs; go_simp; rfl); try simp only [Act.put, List.setIfInBounds_toArray, List.set_cons_zero, List.set_cons_succ])
  refine grow_pred _ rfl (fun w' hr hf => ?_) (fun v => ?_)
  · have h1 := J.out.same hr
    unfold Gives gives
    go_simp
    rw [HI.out]
    refine (read_any h1.st (at_ + 1 + (i / 32 : Nat))).mono ?_
    rintro e w14 ⟨a, n, c, rfl, hn, hs, -, o14, hcap⟩
    exact ⟨_, rfl, o14, ⟨a, n, c, rfl, hn, hs, hcap⟩⟩
  simp only [Act.put, List.setIfInBounds_toArray, List.set_cons_zero, List.set_cons_succ]
  iterate 1 (refine grow_det ?_ rfl (fun w' => ?_) ?_; rotate_left 1; (unfold Runs; go_simp; rfl); try simp only [Act.put, List.setIfInBounds_toArray, List.set_cons_zero, List.set_cons_succ])
  refine grow_read (tupAt v 0) rfl (fun w' hr hf => ?_) ?_
  · have h1 := hf 12 (by kernel_rfl)
    rw [upd_self] at h1
    obtain ⟨a, n, c, rfl, -, -, -⟩ := h1
    unfold Runs tupAt
    go_simp
  simp only [Act.put, List.setIfInBounds_toArray, List.set_cons_zero, List.set_cons_succ]
  refine grow_read (tupAt v 1) rfl (fun w' hr hf => ?_) ?_
  · have h1 := hf 12 (by kernel_rfl)
    rw [upd_self] at h1
    obtain ⟨a, n, c, rfl, -, -, -⟩ := h1
    unfold Runs tupAt
    go_simp
  simp only [Act.put, List.setIfInBounds_toArray, List.set_cons_zero, List.set_cons_succ]
  iterate 2 (refine grow_det ?_ rfl (fun w' => ?_) ?_; rotate_left 1; (unfold Runs; go_simp; rfl); try simp only [Act.put, List.setIfInBounds_toArray, List.set_cons_zero, List.set_cons_succ])
  refine grow_end (fun w5 hr hf => ?_)
  have h5 := hf 12
  rw [upd_self] at h5
  obtain ⟨a5, n5, c5, rfl, hn5, hs5, hcap⟩ := h5
  clear hf
  simp only [tupAt, Array.getD_eq_getD_getElem?, List.getElem?_toArray, List.getElem?_cons_zero, List.getElem?_cons_succ, Option.getD_some]
  clear hw0 hw1 hw2
  have J5 := Lib.hid (J.out.same hr)
  have O5 := Lib.hid ((Only.refl _ w).drew.trans hr)
  clear hr J J0
  by_cases hc : D.code (at_ + 1 + (i / 32 : Nat)) = 0
  · have hsh : D.shows (at_ + 1 + (i / 32 : Nat)) = D.get (at_ + 1 + (i / 32 : Nat)) := by unfold DK.shows; rw [if_pos hc]
    have hlong := DK.get_long J5.out.st.disk (at_ + 1 + (i / 32 : Nat))
    rw [hsh] at hn5 hs5
    rw [hlong] at hn5
    obtain ⟨m, hm⟩ : ∃ m, m = i % 32 := ⟨_, rfl⟩
    have hjp : jPlace D at_ i = (((((D.get (at_ + 1 + (i / 32 : Nat))).getD (m * 2) 0).toNat * 256 + ((D.get (at_ + 1 + (i / 32 : Nat))).getD (m * 2 + 1) 0).toNat : Nat) : Int), (0 : Int)) := by
      unfold jPlace; rw [if_pos hc, hm]
    have HJP := Lib.hid hjp
    clear hjp hsh
    rw [hc]
    have HC := Lib.hid hc
    clear hc
    generalize D.get (at_ + 1 + (i / 32 : Nat)) = l at *
    obtain ⟨ad, rfl⟩ := hs5.there (by intro e; rw [e] at hlong; cases hlong)
    have hrow := hs5.row ad rfl
    subst hn5
    have hm32 : m < 32 := by omega
    have hmod : (i : Int) % 32 = (m : Int) := by omega
    have hb0 : w5.cell? (ad.add (m * 2)) = some (bv (l.getD (m * 2) 0)) := hrow (m * 2) _ (by rw [List.getD_eq_getElem?_getD, List.getElem?_eq_getElem (by omega)]; rfl)
    have hb1 : w5.cell? (ad.add (m * 2 + 1)) = some (bv (l.getD (m * 2 + 1) 0)) := hrow (m * 2 + 1) _ (by rw [List.getD_eq_getElem?_getD, List.getElem?_eq_getElem (by omega)]; rfl)
    have HMM := Lib.hid hm
    have HL := Lib.hid hlong
    clear hm hlong hrow hs5
    unfold bv at hb0 hb1
    have hx0 := (l.getD (m * 2) 0).toNat_lt
    have hx1 := (l.getD (m * 2 + 1) 0).toNat_lt
    rw [add_part ad (m * 2) 0] at hb1
    generalize (l.getD (m * 2) 0).toNat = x0 at *
    generalize (l.getD (m * 2 + 1) 0).toNat = x1 at *
    have hw3 : IntKind.i64.wrap (x0 : Int) = x0 := IntWalk.i64_in _ (by omega)
    have hw4 : IntKind.i64.wrap ((x0 : Int) * 256) = (x0 : Int) * 256 := IntWalk.i64_in _ (by omega)
    have hor : bits .or .i64 ((x0 : Int) * 256) (x1 : Int) = ((x0 * 256 + x1 : Nat) : Int) := by
      have := bits_or_byte x0 x1 hx1
      rw [hw4] at this
      rw [this, IntWalk.i64_in _ (by omega)]
      omega
    have hw5 : IntKind.i64.wrap (x1 : Int) = x1 := IntWalk.i64_in _ (by omega)
    go_wp2_with fail
    refine wp_region_grow (Only (fun _ => False)) (fun | _ => none) (by kernel_rfl) (by kernel_rfl) (Only.refl _) (fun _ _ _ => Only.trans) ?_ ?_
    · intro i V hV
      cases hV
    simp only [List.zipIdx_cons, List.zipIdx_nil, Nat.zero_add, Nat.reduceAdd]
    iterate 2 (refine grow_det ?_ rfl (fun w' => ?_) ?_; rotate_left 1; (unfold Runs; go_simp; rfl); try simp only [Act.put, List.setIfInBounds_toArray, List.set_cons_zero, List.set_cons_succ])
    refine grow_read (.int .u8 ((x0 : Nat) : Int)) rfl (fun w' hr hf => ?_) ?_
    · have hb := some_kept hr hb0
      unfold Runs
      go_simp
    simp only [Act.put, List.setIfInBounds_toArray, List.set_cons_zero, List.set_cons_succ]
    iterate 2 (refine grow_det ?_ rfl (fun w' => ?_) ?_; rotate_left 1; (unfold Runs; go_simp; rfl); try simp only [Act.put, List.setIfInBounds_toArray, List.set_cons_zero, List.set_cons_succ])
    iterate 2 (refine grow_det ?_ rfl (fun w' => ?_) ?_; rotate_left 1; (unfold Runs; go_simp; rfl); try simp only [Act.put, List.setIfInBounds_toArray, List.set_cons_zero, List.set_cons_succ])
    refine grow_read (.int .u8 ((x1 : Nat) : Int)) rfl (fun w' hr hf => ?_) ?_
    · have hb := some_kept hr hb1
      unfold Runs
      go_simp
    simp only [Act.put, List.setIfInBounds_toArray, List.set_cons_zero, List.set_cons_succ]
    iterate 1 (refine grow_det ?_ rfl (fun w' => ?_) ?_; rotate_left 1; (unfold Runs; go_simp; rfl); try simp only [Act.put, List.setIfInBounds_toArray, List.set_cons_zero, List.set_cons_succ])
    iterate 1 (refine grow_det ?_ rfl (fun w' => ?_) ?_; rotate_left 1; (unfold Runs; go_simp; rfl); try simp only [Act.put, List.setIfInBounds_toArray, List.set_cons_zero, List.set_cons_succ])
    iterate 2 (refine grow_det ?_ rfl (fun w' => ?_) ?_; rotate_left 1; (unfold Runs; go_simp; rfl); try simp only [Act.put, List.setIfInBounds_toArray, List.set_cons_zero, List.set_cons_succ])
    refine grow_end (fun w6 hr hf => ?_)
    clear hf
    have O6 := Lib.hid (O5.out.drew.trans hr)
    have J6 := Lib.hid (J5.out.drew.same hr)
    clear hr
    go_wp2_with fail
    go_ret2
    refine ⟨?_, J6.out, O6.out⟩
    rw [HJP.out]
    simp
  · have hb : (D.code (at_ + 1 + (i / 32 : Nat)) != 0) = true := by simpa using hc
    have HJP := Lib.hid (show jPlace D at_ i = (0, D.code (at_ + 1 + (i / 32 : Nat))) from by unfold jPlace; rw [if_neg hc])
    clear hn5 hs5 hc
    generalize D.code (at_ + 1 + (i / 32 : Nat)) = cc at *
    go_wp2_with fail
    go_ret2
    exact ⟨by rw [HJP.out]; rfl, J5.out, O5.out⟩
end Go.Proofs.Ytpmlmjbhgonegaa
