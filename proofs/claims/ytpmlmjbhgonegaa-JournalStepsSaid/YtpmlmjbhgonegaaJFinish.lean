/- Contract of the journal's finish: the blocks of the group at hand go to where they go. -/
import Derived.Test.YtpmlmjbhgonegaaJPlace
import Derived.Test.YtpmlmjbhgonegaaGrowT
namespace Go.Proofs.Ytpmlmjbhgonegaa
open Go.RowKit

/-- A disk with at most so many writes done. -/
structure DK.under (D : DK) (m : Int) : Prop where
  fuse : D.fuse ≤ 9223372036854775807
  lo : 0 ≤ D.writes
  hi : D.writes ≤ m
theorem DK.under.fine {D : DK} {m : Int} (h : D.under m) (hm : m < 9223372036854775807) : D.fine := ⟨h.fuse, h.lo, by have := h.hi; omega⟩
theorem DK.under.mono {D : DK} {m n : Int} (h : D.under m) (hm : m ≤ n) : D.under n := ⟨h.fuse, h.lo, by have := h.hi; omega⟩
theorem DK.under.write {D : DK} {m : Int} (h : D.under m) (i : Int) (l : List UInt8) : (D.write i l).1.under (m + 1) := by
  have h1 := h.fuse
  have h2 := h.lo
  have h3 := h.hi
  unfold DK.write
  split
  · exact h.mono (by omega)
  · split
    · exact h.mono (by omega)
    · split
      · exact ⟨by simp [DK.blown], by simpa [DK.blown] using h2, by simp [DK.blown]; omega⟩
      · refine ⟨?_, by simp [DK.wrote]; omega, by simp [DK.wrote]; omega⟩
        simp only [DK.wrote]
        split <;> omega

/-- The writes of a group, from its i-th block on. -/
def jSteps (at_ : Int) : Nat → Nat → DK → DK × Int
  | 0, _, D => (D, 0)
  | k + 1, i, D =>
    if (jPlace D at_ i).2 ≠ 0 then (D, (jPlace D at_ i).2)
    else if D.code (at_ + 7 + (i : Nat)) ≠ 0 then (D, D.code (at_ + 7 + (i : Nat)))
    else if (D.write (jPlace D at_ i).1 (D.get (at_ + 7 + (i : Nat)))).2 ≠ 0 then
      ((D.write (jPlace D at_ i).1 (D.get (at_ + 7 + (i : Nat)))).1, if (D.write (jPlace D at_ i).1 (D.get (at_ + 7 + (i : Nat)))).2 = 2 then 2 else 4)
    else jSteps at_ k (i + 1) (D.write (jPlace D at_ i).1 (D.get (at_ + 7 + (i : Nat)))).1

/-- How the disk is behind finish, and what it answers. -/
def jFinish (D : DK) (at_ : Int) (g n : Nat) : DK × Int :=
  if (jSteps at_ n 0 D).2 ≠ 0 then jSteps at_ n 0 D else (jSteps at_ n 0 D).1.write at_ (headBytes g 0)

theorem jSteps_under (at_ : Int) : ∀ (k i : Nat) (D : DK) (m : Int), D.under m → (jSteps at_ k i D).1.under (m + k)
  | 0, _, D, m, h => by simpa [jSteps] using h
  | k + 1, i, D, m, h => by
    unfold jSteps
    split
    · exact h.mono (by omega)
    · split
      · exact h.mono (by omega)
      · split
        · exact (h.write _ _).mono (by omega)
        · exact (jSteps_under at_ k (i + 1) _ (m + 1) (h.write _ _)).mono (by omega)

theorem jFinish_under {D : DK} {m : Int} (h : D.under m) (at_ : Int) (g n : Nat) : (jFinish D at_ g n).1.under (m + n + 1) := by
  have h1 := jSteps_under at_ n 0 D m h
  unfold jFinish
  split
  · exact h1.mono (by omega)
  · exact h1.write _ _

theorem jSteps_step (at_ : Int) (k i : Nat) (D : DK) (to_ : Int) (D' : DK) (hp : jPlace D at_ i = (to_, 0)) (hc : D.code (at_ + 7 + (i : Nat)) = 0) (hw : D.write to_ (D.get (at_ + 7 + (i : Nat))) = (D', 0)) : jSteps at_ (k + 1) i D = jSteps at_ k (i + 1) D' := by
  rw [jSteps]
  simp [hp, hc, hw]
theorem jSteps_bad (at_ : Int) (k i : Nat) (D : DK) (to_ : Int) (D' : DK) (c : Int) (hp : jPlace D at_ i = (to_, 0)) (hc : D.code (at_ + 7 + (i : Nat)) = 0) (hw : D.write to_ (D.get (at_ + 7 + (i : Nat))) = (D', c)) (h : c ≠ 0) : jSteps at_ (k + 1) i D = (D', if c = 2 then 2 else 4) := by
  rw [jSteps]
  simp [hp, hc, hw, h]
theorem jSteps_place (at_ : Int) (k i : Nat) (D : DK) (to_ c : Int) (hp : jPlace D at_ i = (to_, c)) (h : c ≠ 0) : jSteps at_ (k + 1) i D = (D, c) := by
  rw [jSteps]
  simp [hp, h]
theorem jSteps_read (at_ : Int) (k i : Nat) (D : DK) (to_ : Int) (hp : jPlace D at_ i = (to_, 0)) (h : D.code (at_ + 7 + (i : Nat)) ≠ 0) : jSteps at_ (k + 1) i D = (D, D.code (at_ + 7 + (i : Nat))) := by
  rw [jSteps]
  simp [hp, h]
theorem jFinish_bad {D0 D : DK} {at_ : Int} {g n : Nat} {c : Int} (h : jSteps at_ n 0 D0 = (D, c)) (hc : c ≠ 0) : jFinish D0 at_ g n = (D, c) := by
  unfold jFinish
  simp [h, hc]
theorem jFinish_good {D0 D : DK} {at_ : Int} {g n : Nat} (h : jSteps at_ n 0 D0 = (D, 0)) : jFinish D0 at_ g n = D.write at_ (headBytes g 0) := by
  unfold jFinish
  simp [h]

set_option maxRecDepth 100000 in
set_option maxHeartbeats 1000000 in
theorem finish_calls {B : Nat} {w0 w : World} {p r : Nat} {D0 : DK} {jb : Nat} {at_ : Int} {g : Nat} (h : JSt B w0 w p r D0 jb at_ g) (n : Nat) (hn : n ≤ 192) (ha : 0 ≤ at_) (ha2 : at_ ≤ 4096) (hg : g < 9223372036854775808) (m : Int) (hu : D0.under m) (hm : m < 9000000000000000000) :
    Calls Try.prog 31 #[.pointer (some ⟨jb, 0, none⟩), .int .i64 (n : Int)] w fun e w' => e = .returned (.int .i64 (jFinish D0 at_ g n).2) ∧ JSt B w0 w' p r (jFinish D0 at_ g n).1 jb at_ g ∧ Only (Two p r) w w' := by
  have J0 := Lib.hid h
  have HU := Lib.hid hu
  clear h hu
  go_enter Try.func31, Try.ntmps31
  go_wp2_with fail
  go_loopw [11] (fun i wr => ∃ (k : Nat) (D : DK), i = .int .i64 k ∧ k ≤ n ∧ JSt B w0 wr p r D jb at_ g ∧ Only (Two p r) w wr ∧ D.under (m + k) ∧ jSteps at_ n 0 D0 = jSteps at_ (n - k) k D) (fun i _ => n - (intOf i).toNat)
  case atStart => exact ⟨0, D0, rfl, by omega, J0.out, Only.refl _ _, HU.out.mono (by omega), by simp⟩
  case round =>
    obtain ⟨i, D, rfl, hk, hj, ho, hud, hs⟩ := hrel
    have J := Lib.hid hj
    have O := Lib.hid ho
    have HD := Lib.hid hud
    have HS := Lib.hid hs
    clear hj ho hud hs
    by_cases hlt : i < n
    · obtain ⟨to_, pe, hp⟩ : ∃ a b, jPlace D at_ i = (a, b) := ⟨_, _, rfl⟩
      obtain ⟨q, hq⟩ : ∃ q, n - i = q + 1 := ⟨n - i - 1, by omega⟩
      have hcall := place_calls J.out i (by omega) ha ha2
      rw [hp] at hcall
      have HCALL := Lib.hid hcall
      have HP := Lib.hid hp
      have HQ := Lib.hid hq
      clear hcall hp hq
      go_wp2_with fail
      refine HCALL.out.mono ?_
      rintro e w1 ⟨rfl, j1, o1⟩
      have O1 := Lib.hid (O.out.trans (o1.two p r))
      have J := Lib.hid j1
      clear j1 o1
      by_cases hpe : pe = 0
      · subst hpe
        have hw1 : IntKind.i64.wrap (at_ + 7) = at_ + 7 := IntWalk.i64_in _ (by omega)
        have hw2 : IntKind.i64.wrap (at_ + 7 + (i : Int)) = at_ + 7 + (i : Int) := IntWalk.i64_in _ (by omega)
        go_wp2_with fail
        refine wp_region_grow (Only (fun _ => False)) (fun | 11 => some (ReadRes D (at_ + 7 + (i : Nat))) | _ => none) (by kernel_rfl) (by kernel_rfl) (Only.refl _) (fun _ _ _ => Only.trans) ?_ ?_
        · intro i V hV v w1 w2 hr hv
          split at hV
          · cases hV
            exact hv.grow hr
          · cases hV
        simp only [List.zipIdx_cons, List.zipIdx_nil, Nat.zero_add, Nat.reduceAdd]
        iterate 3 (refine grow_det ?_ rfl (fun w' => ?_) ?_; rotate_left 1; (unfold Runs; go_simp; rfl); try simp only [Act.put, List.setIfInBounds_toArray, List.set_cons_zero, List.set_cons_succ])
        refine grow_read (.pointer (some ⟨p, 0, none⟩)) rfl (fun w' hr hf => ?_) ?_
        · have h1 := cellOf (J.out.drew.same hr).cells 0
          simp [jCells] at h1
          unfold Runs
          go_simp
        simp only [Act.put, List.setIfInBounds_toArray, List.set_cons_zero, List.set_cons_succ]
        iterate 3 (refine grow_det ?_ rfl (fun w' => ?_) ?_; rotate_left 1; (unfold Runs; go_simp; rfl); try simp only [Act.put, List.setIfInBounds_toArray, List.set_cons_zero, List.set_cons_succ])
        refine grow_read (.int .i64 at_) rfl (fun w' hr hf => ?_) ?_
        · have h1 := cellOf (J.out.drew.same hr).cells 1
          simp [jCells] at h1
          unfold Runs
          go_simp
        simp only [Act.put, List.setIfInBounds_toArray, List.set_cons_zero, List.set_cons_succ]
        iterate 3 (refine grow_det ?_ rfl (fun w' => ?_) ?_; rotate_left 1; (unfold Runs; go_simp; rfl); try simp only [Act.put, List.setIfInBounds_toArray, List.set_cons_zero, List.set_cons_succ])
        refine grow_pred _ rfl (fun w' hr hf => ?_) (fun v => ?_)
        · have h1 := J.out.drew.same hr
          unfold Gives gives
          go_simp
          refine (read_any h1.st (at_ + 7 + (i : Nat))).mono ?_
          rintro e w14 ⟨a, n, c, rfl, hn, hs, -, o14, hcap⟩
          exact ⟨_, rfl, o14, ⟨a, n, c, rfl, hn, hs, hcap⟩⟩
        simp only [Act.put, List.setIfInBounds_toArray, List.set_cons_zero, List.set_cons_succ]
        iterate 1 (refine grow_det ?_ rfl (fun w' => ?_) ?_; rotate_left 1; (unfold Runs; go_simp; rfl); try simp only [Act.put, List.setIfInBounds_toArray, List.set_cons_zero, List.set_cons_succ])
        refine grow_read (tupAt v 0) rfl (fun w' hr hf => ?_) ?_
        · have h1 := hf 11 (by kernel_rfl)
          rw [upd_self] at h1
          obtain ⟨a, n, c, rfl, -, -, -⟩ := h1
          unfold Runs tupAt
          go_simp
        simp only [Act.put, List.setIfInBounds_toArray, List.set_cons_zero, List.set_cons_succ]
        refine grow_read (tupAt v 1) rfl (fun w' hr hf => ?_) ?_
        · have h1 := hf 11 (by kernel_rfl)
          rw [upd_self] at h1
          obtain ⟨a, n, c, rfl, -, -, -⟩ := h1
          unfold Runs tupAt
          go_simp
        simp only [Act.put, List.setIfInBounds_toArray, List.set_cons_zero, List.set_cons_succ]
        iterate 2 (refine grow_det ?_ rfl (fun w' => ?_) ?_; rotate_left 1; (unfold Runs; go_simp; rfl); try simp only [Act.put, List.setIfInBounds_toArray, List.set_cons_zero, List.set_cons_succ])
        refine grow_end (fun w5 hr hf => ?_)
        have h5 := hf 11
        rw [upd_self] at h5
        obtain ⟨a5, n5, c5, rfl, hn5, hs5, hcap⟩ := h5
        clear hf
        simp only [tupAt, Array.getD_eq_getD_getElem?, List.getElem?_toArray, List.getElem?_cons_zero, List.getElem?_cons_succ, Option.getD_some]
        clear hw1 hw2
        have J5 := Lib.hid (J.out.drew.same hr)
        have O5 := Lib.hid (O1.out.drew.trans (hr.two p r))
        clear hr
        by_cases hc : D.code (at_ + 7 + (i : Nat)) = 0
        · have hsh : D.shows (at_ + 7 + (i : Nat)) = D.get (at_ + 7 + (i : Nat)) := by unfold DK.shows; rw [if_pos hc]
          have hlong := DK.get_long J5.out.st.disk (at_ + 7 + (i : Nat))
          rw [hsh] at hn5 hs5
          obtain ⟨D', we, hw⟩ : ∃ a b, D.write to_ (D.get (at_ + 7 + (i : Nat))) = (a, b) := ⟨_, _, rfl⟩
          have hwr := write_st J5.out.st to_ a5 (D.get (at_ + 7 + (i : Nat))) n5 c5 hn5.symm hs5 (HD.out.fine (by omega))
          have hud' := HD.out.write to_ (D.get (at_ + 7 + (i : Nat)))
          rw [hw] at hwr hud'
          have HWR := Lib.hid hwr
          have HUD := Lib.hid hud'
          have HW := Lib.hid hw
          have HC := Lib.hid hc
          rw [hc]
          clear hc hw hwr hud' hsh hlong hn5 hs5 hcap
          have c0 : w5.cell? ⟨jb, 0, none⟩ = some (.pointer (some ⟨p, 0, none⟩)) := by
            have h1 := cellOf J5.out.cells 0
            simpa [jCells] using h1
          go_wp2_with fail
          refine HWR.out.mono ?_
          rintro e w6 ⟨rfl, s6, o6⟩
          clear c0
          have J6 := Lib.hid (J5.out.next s6 o6)
          have O6 := Lib.hid (O5.out.trans o6)
          clear s6 o6
          by_cases hwe : we = 0
          · subst hwe
            have hs1 : jSteps at_ n 0 D0 = jSteps at_ q (i + 1) D' := HS.out.trans (by rw [HQ.out]; exact jSteps_step at_ q i D to_ D' HP.out HC.out HW.out)
            have F := Lib.hid hs1
            clear hs1
            go_wp2_with fail
            go_roundw
            case rel => exact ⟨i + 1, D', by go_num, by omega, J6.out, O6.out, HUD.out.mono (by omega), by rw [show n - (i + 1) = q from by have := HQ.out; omega]; exact F.out⟩
            case measure => simp [intOf]; omega
          · have hs1 : jSteps at_ n 0 D0 = (D', if we = 2 then 2 else 4) := HS.out.trans (by rw [HQ.out]; exact jSteps_bad at_ q i D to_ D' we HP.out HC.out HW.out hwe)
            have F := Lib.hid (jFinish_bad (g := g) hs1 (by split <;> decide))
            clear hs1
            have hb : (we != 0) = true := by simpa using hwe
            by_cases h2 : we = 2
            · subst h2
              clear hb hwe
              go_wp2_with fail
              go_ret
              exact ⟨by rw [F.out]; rfl, by rw [F.out]; exact J6.out, O6.out⟩
            · have hb2 : (we == 2) = false := by simpa using h2
              have hs2 : jFinish D0 at_ g n = (D', 4) := F.out.trans (by rw [if_neg h2])
              have F2 := Lib.hid hs2
              clear hs2
              clear hwe h2
              go_wp2_with fail
              go_ret
              exact ⟨by rw [F2.out]; rfl, by rw [F2.out]; exact J6.out, O6.out⟩
        · have hb : (D.code (at_ + 7 + (i : Nat)) != 0) = true := by simpa using hc
          have F := Lib.hid (jFinish_bad (g := g) (HS.out.trans (by rw [HQ.out]; exact jSteps_read at_ q i D to_ HP.out hc)) hc)
          clear hc hn5 hs5
          generalize D.code (at_ + 7 + (i : Nat)) = cc at *
          go_wp2_with fail
          go_ret
          exact ⟨by rw [F.out]; rfl, by rw [F.out]; exact J5.out, O5.out⟩
      · have hb : (pe != 0) = true := by simpa using hpe
        have F := Lib.hid (jFinish_bad (g := g) (HS.out.trans (by rw [HQ.out]; exact jSteps_place at_ q i D to_ pe HP.out hpe)) hpe)
        clear hpe
        go_wp2_with fail
        go_ret
        exact ⟨by rw [F.out]; rfl, by rw [F.out]; exact J.out, O1.out⟩
    · obtain rfl : i = n := by omega
      have F := Lib.hid (jFinish_good (g := g) (HS.out.trans (by rw [Nat.sub_self]; rfl)))
      go_wp2_with fail
      refine wp_region_growT 13 (Only (fun _ => False)) (fun | 12 => some (BlockRes (headBytes g 0)) | _ => none) (by kernel_rfl) (by kernel_rfl) (by kernel_rfl) (by kernel_rfl) (by kernel_rfl) (Only.refl _) (fun _ _ _ => Only.trans) ?_ ?_
      · intro i V hV v w1 w2 hr hv
        split at hV
        · cases hV
          exact hv.grow (by rw [headBytes_length]; decide) hr
        · cases hV
      simp only [List.zipIdx_cons, List.zipIdx_nil, Nat.zero_add, Nat.reduceAdd, List.take_succ_cons, List.take_zero, List.drop_succ_cons, List.drop_zero]
      iterate 3 (refine grow_det ?_ rfl (fun w' => ?_) ?_; rotate_left 1; (unfold Runs; go_simp; rfl); try simp only [Act.put, List.setIfInBounds_toArray, List.set_cons_zero, List.set_cons_succ])
      refine grow_read (.pointer (some ⟨p, 0, none⟩)) rfl (fun w' hr hf => ?_) ?_
      · have h1 := cellOf (J.out.drew.same hr).cells 0
        simp [jCells] at h1
        unfold Runs
        go_simp
      simp only [Act.put, List.setIfInBounds_toArray, List.set_cons_zero, List.set_cons_succ]
      iterate 3 (refine grow_det ?_ rfl (fun w' => ?_) ?_; rotate_left 1; (unfold Runs; go_simp; rfl); try simp only [Act.put, List.setIfInBounds_toArray, List.set_cons_zero, List.set_cons_succ])
      refine grow_read (.int .i64 at_) rfl (fun w' hr hf => ?_) ?_
      · have h1 := cellOf (J.out.drew.same hr).cells 1
        simp [jCells] at h1
        unfold Runs
        go_simp
      simp only [Act.put, List.setIfInBounds_toArray, List.set_cons_zero, List.set_cons_succ]
      iterate 3 (refine grow_det ?_ rfl (fun w' => ?_) ?_; rotate_left 1; (unfold Runs; go_simp; rfl); try simp only [Act.put, List.setIfInBounds_toArray, List.set_cons_zero, List.set_cons_succ])
      refine grow_read (.int .i64 (g : Nat)) rfl (fun w' hr hf => ?_) ?_
      · have h1 := cellOf (J.out.drew.same hr).cells 2
        simp [jCells] at h1
        unfold Runs
        go_simp
      simp only [Act.put, List.setIfInBounds_toArray, List.set_cons_zero, List.set_cons_succ]
      refine grow_pred _ rfl (fun w' hr hf => ?_) (fun v => ?_)
      · have h1 := J.out.drew.same hr
        unfold Gives gives
        go_simp
        refine (head_st h1.st g 0 _ _ rfl rfl hg (by omega)).mono ?_
        rintro e w14 ⟨b, rfl, hb, -, o14⟩
        exact ⟨_, rfl, o14, b, rfl, hb⟩
      simp only [Act.put, List.setIfInBounds_toArray, List.set_cons_zero, List.set_cons_succ]
      refine grow_end (fun w5 hr hf => ?_)
      have h5 := hf 12
      rw [upd_self] at h5
      obtain ⟨b5, rfl, hb5⟩ := h5
      clear hf
      have J5 := Lib.hid (J.out.drew.same hr)
      have O5 := Lib.hid (O.out.drew.trans (hr.two p r))
      clear hr
      go_wp2_with fail
      refine (write_st J5.out.st at_ _ _ 64 64 (headBytes_length g 0) (.of_row hb5) (HD.out.fine (by omega))).mono ?_
      rintro e w6 ⟨rfl, s6, o6⟩
      have J6 := Lib.hid (J5.out.next s6 o6)
      have O6 := Lib.hid (O5.out.trans o6)
      clear s6 o6 hb5
      go_wp2_with fail
      go_ret
      exact ⟨by rw [F.out]; rfl, by rw [F.out]; exact J6.out, O6.out⟩
end Go.Proofs.Ytpmlmjbhgonegaa
