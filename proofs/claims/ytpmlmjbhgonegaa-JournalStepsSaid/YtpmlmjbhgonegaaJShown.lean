/- The laws' head: shown. -/
import Derived.Test.YtpmlmjbhgonegaaJFit
namespace Go.Proofs.Ytpmlmjbhgonegaa
open Go.RowKit

set_option maxRecDepth 100000 in
set_option maxHeartbeats 4000000 in
theorem shown_calls (w : World) :
    Calls Try.prog 9 #[] w fun e w' => e = .returned (.bool true) ∧ Only (fun _ => False) w w' := by
  have HG := Lib.hid (ground_calls (B := w.heap.size) (w0 := w) (w := w) 0 (by omega) (by omega) (Nat.le_refl _) (Below.refl _ _))
  go_enter Try.func9, Try.ntmps9
  go_wp2_with fail
  refine HG.out.mono ?_
  rintro e w1 ⟨p, r, jb, D, rfl, j1, o1, f1, cl1, hp, hr, hj⟩
  have J := Lib.hid j1
  have O := Lib.hid o1
  have F := Lib.hid f1
  have CL := Lib.hid cl1
  have HPR := Lib.hid (And.intro hp (And.intro hr hj))
  have HLT := Lib.hid (show p < w1.heap.size ∧ r < w1.heap.size ∧ jb < w1.heap.size from ⟨lt_of_heap j1.st.disk.cells, by obtain ⟨_, _, hm, _⟩ := j1.st.disk.map; exact lt_of_heap hm, lt_of_heap j1.cells⟩)
  have HS := Lib.hid (Nat.le_refl w1.heap.size)
  clear j1 o1 f1 cl1 hp hr hj HG
  go_wp2_with fail
  refine (full_st J.out.st 1 1 _ _ rfl rfl).mono ?_
  rintro e wA ⟨b1, rfl, hb, -, o2, hs⟩
  have Rb1 := Lib.hid hb
  have Nb1 := Lib.hid (show ¬ Three p r jb b1 from fun e => by have := HLT.out; have := HS.out; rcases e with e | e | e <;> omega)
  have J := Lib.hid (J.out.same o2)
  have O := Lib.hid (O.out.over (fun _ h => h.elim) o2)
  have HS := Lib.hid (Nat.le_trans HS.out o2.size)
  clear hb o2 hs
  go_wp2_with fail
  refine (full_st J.out.st 2 2 _ _ rfl rfl).mono ?_
  rintro e wB ⟨b2, rfl, hb, -, o2, hs⟩
  have Rb2 := Lib.hid hb
  have Nb2 := Lib.hid (show ¬ Three p r jb b2 from fun e => by have := HLT.out; have := HS.out; rcases e with e | e | e <;> omega)
  have Rb1 := Lib.hid (Rb1.out.grow o2 (by rw [fullBytes_length]; decide))
  have J := Lib.hid (J.out.same o2)
  have O := Lib.hid (O.out.over (fun _ h => h.elim) o2)
  have HS := Lib.hid (Nat.le_trans HS.out o2.size)
  clear hb o2 hs
  go_wp2_with fail
  refine (commit_fit (J.out.same ((Only.refl _ wB).alloc _)) 1000 F.out (by decide) (by decide) (by decide) (by decide) (by decide) CL.out _ shA 2 2 rfl group_A (puts_two wB b1 b2 _ _ 220 221 _ Rb1.out Rb2.out (fullBytes_length _ _) (fullBytes_length _ _) Nb1.out Nb2.out (fun e => by have := HLT.out; have := HS.out; rcases e with e | e | e <;> omega))).mono ?_
  rintro e w2 ⟨rfl, D1, j2, f2, cl2, o2⟩
  have O := Lib.hid ((O.out.alloc _).over (fun k hk => by have := HPR.out; rcases hk with e | e | e <;> omega) o2)
  have HS := Lib.hid (Nat.le_trans HS.out (Nat.le_trans (((Only.refl (fun _ => False) wB).alloc _).size) o2.size))
  have J := Lib.hid j2
  have F := Lib.hid f2
  have CL := Lib.hid cl2
  clear j2 f2 cl2 o2 Rb1 Rb2 Nb1 Nb2
  go_wp2_with fail
  refine (full_st J.out.st 1 1 _ _ rfl rfl).mono ?_
  rintro e wC ⟨b1, rfl, hb, -, o2, hs⟩
  have Rb1 := Lib.hid hb
  have Nb1 := Lib.hid (show ¬ Three p r jb b1 from fun e => by have := HLT.out; have := HS.out; rcases e with e | e | e <;> omega)
  have J := Lib.hid (J.out.same o2)
  have O := Lib.hid (O.out.over (fun _ h => h.elim) o2)
  have HS := Lib.hid (Nat.le_trans HS.out o2.size)
  clear hb o2 hs
  go_wp2_with fail
  refine (full_st J.out.st 1 1 _ _ rfl rfl).mono ?_
  rintro e wD ⟨b2, rfl, hb, -, o2, hs⟩
  have Rb2 := Lib.hid hb
  have Nb2 := Lib.hid (show ¬ Three p r jb b2 from fun e => by have := HLT.out; have := HS.out; rcases e with e | e | e <;> omega)
  have Rb1 := Lib.hid (Rb1.out.grow o2 (by rw [fullBytes_length]; decide))
  have J := Lib.hid (J.out.same o2)
  have O := Lib.hid (O.out.over (fun _ h => h.elim) o2)
  have HS := Lib.hid (Nat.le_trans HS.out o2.size)
  clear hb o2 hs
  go_wp2_with fail
  refine (commit_bad (J.out.same ((Only.refl _ wD).alloc _)) _ F.out (by decide) (by decide) (by decide) (by decide) (by decide) _ shB 2 2 rfl (by decide) (may_B F.out.len) (puts_two wD b1 b2 _ _ 220 220 _ Rb1.out Rb2.out (fullBytes_length _ _) (fullBytes_length _ _) Nb1.out Nb2.out (fun e => by have := HLT.out; have := HS.out; rcases e with e | e | e <;> omega))).mono ?_
  rintro e w3 ⟨rfl, j2, o2⟩
  have O := Lib.hid ((O.out.alloc _).over (fun k hk => by have := HPR.out; rcases hk with e | e | e <;> omega) o2)
  have HS := Lib.hid (Nat.le_trans HS.out (Nat.le_trans (((Only.refl (fun _ => False) wD).alloc _).size) o2.size))
  have J := Lib.hid j2
  clear j2 o2 Rb1 Rb2 Nb1 Nb2
  go_wp2_with fail
  refine (full_st J.out.st 1 1 _ _ rfl rfl).mono ?_
  rintro e wE ⟨b1, rfl, hb, -, o2, hs⟩
  have Rb1 := Lib.hid hb
  have Nb1 := Lib.hid (show ¬ Three p r jb b1 from fun e => by have := HLT.out; have := HS.out; rcases e with e | e | e <;> omega)
  have J := Lib.hid (J.out.same o2)
  have O := Lib.hid (O.out.over (fun _ h => h.elim) o2)
  have HS := Lib.hid (Nat.le_trans HS.out o2.size)
  clear hb o2 hs
  go_wp2_with fail
  refine (commit_bad (J.out.same ((Only.refl _ wE).alloc _)) _ F.out (by decide) (by decide) (by decide) (by decide) (by decide) _ shC 1 1 rfl (by decide) (may_C F.out.len) (puts_one wE b1 _ 5 _ Rb1.out (fullBytes_length _ _) Nb1.out (fun e => by have := HLT.out; have := HS.out; rcases e with e | e | e <;> omega))).mono ?_
  rintro e w4 ⟨rfl, j2, o2⟩
  have O := Lib.hid ((O.out.alloc _).over (fun k hk => by have := HPR.out; rcases hk with e | e | e <;> omega) o2)
  have HS := Lib.hid (Nat.le_trans HS.out (Nat.le_trans (((Only.refl (fun _ => False) wE).alloc _).size) o2.size))
  have J := Lib.hid j2
  clear j2 o2 Rb1 Nb1
  go_wp2_with fail
  refine (groups_calls w4 p jb 0 _ J.out.cells).mono ?_
  rintro e w5 ⟨rfl, rfl⟩
  go_wp2_with fail
  refine (fuse_st J.out.st 0).mono ?_
  rintro e w5 ⟨rfl, s2, o2⟩
  have J := Lib.hid (J.out.next s2 o2)
  have O := Lib.hid (O.out.over (fun k hk => by have := HPR.out; rcases hk with e | e <;> omega) o2)
  have HS := Lib.hid (Nat.le_trans HS.out o2.size)
  clear s2 o2
  go_wp2_with fail
  refine (full_st J.out.st 3 3 _ _ rfl rfl).mono ?_
  rintro e wF ⟨b1, rfl, hb, -, o2, hs⟩
  have Rb1 := Lib.hid hb
  have Nb1 := Lib.hid (show ¬ Three p r jb b1 from fun e => by have := HLT.out; have := HS.out; rcases e with e | e | e <;> omega)
  have J := Lib.hid (J.out.same o2)
  have O := Lib.hid (O.out.over (fun _ h => h.elim) o2)
  have HS := Lib.hid (Nat.le_trans HS.out o2.size)
  clear hb o2 hs
  go_wp2_with fail
  have hfu : (D1.fused 0).len = 259 ∧ (D1.fused 0).off = false ∧ (D1.fused 0).fuse = 0 ∧ (D1.fused 0).under 2000 := by
    have h1 := F.out.off
    have h2 := F.out.under
    have e : D1.fused 0 = { D1 with fuse := 0 } := by unfold DK.fused; rw [h1]; rfl
    rw [e]
    exact ⟨F.out.len, h1, rfl, show (0 : Int) ≤ 9223372036854775807 by decide, h2.lo, by have := h2.hi; simp only; omega⟩
  have hcc := commit_calls (J.out.same ((Only.refl _ wF).alloc _)) (by decide) (by rw [hfu.1]; decide) (by rw [hfu.1]; decide) (by decide) _ shD 1 1 rfl (by decide) (puts_one wF b1 _ 220 44 Rb1.out (fullBytes_length _ _) Nb1.out (fun e => by have := HLT.out; have := HS.out; rcases e with e | e | e <;> omega)) 2000 hfu.2.2.2 (by decide)
  rw [may_D hfu.1, commit_D hfu.1 hfu.2.1 hfu.2.2.1] at hcc
  have HU := Lib.hid hfu
  clear hfu
  refine hcc.mono ?_
  clear hcc
  rintro e w6 ⟨rfl, j2, o2⟩
  have O := Lib.hid ((O.out.alloc _).over (fun k hk => by have := HPR.out; rcases hk with e | e | e <;> omega) o2)
  have HS := Lib.hid (Nat.le_trans HS.out (Nat.le_trans (((Only.refl (fun _ => False) wF).alloc _).size) o2.size))
  have J := Lib.hid j2
  clear j2 o2 Rb1 Nb1
  go_wp2_with fail
  refine (boot_st J.out.st).mono ?_
  rintro e w7 ⟨rfl, s2, o2⟩
  have J := Lib.hid (J.out.next s2 o2)
  have O := Lib.hid (O.out.over (fun k hk => by have := HPR.out; rcases hk with e | e <;> omega) o2)
  have HS := Lib.hid (Nat.le_trans HS.out o2.size)
  clear s2 o2
  have hf3 : Fit (DK.booted (DK.blown (D1.fused 0))) 259 2000 := ⟨HU.out.1, rfl, rfl, show (-1 : Int) ≤ 9223372036854775807 by decide, HU.out.2.2.2.lo, HU.out.2.2.2.hi⟩
  have hcl3 : Clean 0 1 (DK.booted (DK.blown (D1.fused 0))).get (applied shA zeroImg) := by
    have e : (DK.booted (DK.blown (D1.fused 0))).get = D1.get := by
      have h1 := F.out.off
      have e : D1.fused 0 = { D1 with fuse := 0 } := by unfold DK.fused; rw [h1]; rfl
      rw [e]; rfl
    exact clean_img CL.out e
  obtain ⟨D2, hD2⟩ : ∃ D2, D2 = DK.booted (DK.blown (D1.fused 0)) := ⟨_, rfl⟩
  rw [← hD2] at J hf3 hcl3
  have F := Lib.hid hf3
  have CL := Lib.hid hcl3
  clear hf3 hcl3 hD2 HU
  go_wp2_with fail
  refine (open_fit J.out.st 2000 F.out (by decide) (by decide) (by decide) (by decide) (by decide) (.inl CL.out)).mono ?_
  rintro e w8 ⟨jb2, D3, rfl, hj2, j2, f2, cl2, o2⟩
  have J := Lib.hid j2
  have F := Lib.hid f2
  have CL := Lib.hid cl2
  have O := Lib.hid (O.out.over (fun k hk => by have := HPR.out; rcases hk with e | e <;> omega) o2)
  clear hj2 j2 f2 cl2 o2
  go_wp2_with fail
  have hget : D3.get 220 = fullBytes 1 1 := by
    rw [CL.out.out 220 (by unfold inJ; omega)]
    exact applied_named group_A zeroImg (j := 0) (by decide)
  have hrd := read_st J.out.st 220 (code_on F.out.off (by decide) (by rw [F.out.len]; decide))
  rw [hget] at hrd
  refine hrd.mono ?_
  clear hrd hget
  rintro e w9 ⟨b, rfl, hrow, -, s2, o2, -⟩
  have J := Lib.hid (J.out.same o2)
  have O := Lib.hid (O.out.over (fun _ h => h.elim) o2)
  have RW := Lib.hid hrow
  clear s2 o2 hrow
  go_wp2_with fail
  refine wp_region_grow (Only (fun _ => False)) (fun | 24 => some (fun v _ => v = .int .i64 1) | 34 => some (BlockRes (fullBytes 1 1)) | _ => none) (by kernel_rfl) (by kernel_rfl) (Only.refl _) (fun _ _ _ => Only.trans) ?_ ?_
  · intro i V hV v w1 w2 hr hv
    split at hV
    · cases hV
      exact hv
    · cases hV
      exact hv.grow (by rw [fullBytes_length]; decide) hr
    · cases hV
  simp only [List.zipIdx_cons, List.zipIdx_nil, Nat.zero_add, Nat.reduceAdd]
  iterate 24 (refine grow_det ?_ rfl (fun w' => ?_) ?_; rotate_left 1; (unfold Runs; go_simp; rfl); try simp only [Act.put, List.setIfInBounds_toArray, List.set_cons_zero, List.set_cons_succ])
  refine grow_pred _ rfl (fun w' hr hf => ?_) (fun v => ?_)
  · have h1 := (J.out.drew.same hr)
    unfold Gives gives
    go_simp
    refine (groups_calls w' p jb2 0 1 h1.cells).mono ?_
    rintro e w14 ⟨rfl, rfl⟩
    first | exact ⟨rfl, Only.refl _ _⟩ | exact ⟨_, rfl, Only.refl _ _, rfl⟩
  simp only [Act.put, List.setIfInBounds_toArray, List.set_cons_zero, List.set_cons_succ]
  refine grow_read (.bool true) rfl (fun w' hr hf => ?_) ?_
  · have h9 := hf 24 (by kernel_rfl)
    rw [upd_self] at h9
    subst h9
    unfold Runs
    go_simp
  simp only [Act.put, List.setIfInBounds_toArray, List.set_cons_zero, List.set_cons_succ]
  iterate 7 (refine grow_det ?_ rfl (fun w' => ?_) ?_; rotate_left 1; (unfold Runs; go_simp; rfl); try simp only [Act.put, List.setIfInBounds_toArray, List.set_cons_zero, List.set_cons_succ])
  refine grow_read (.string (strOf (fullBytes 1 1))) rfl (fun w' hr hf => ?_) ?_
  · have h1 := conv_any (fullBytes 1 1) (fullBytes_length 1 1) b w' (RW.out.drew.grow hr (by rw [fullBytes_length]; decide))
    unfold Runs
    go_simp
  simp only [Act.put, List.setIfInBounds_toArray, List.set_cons_zero, List.set_cons_succ]
  refine grow_pred _ rfl (fun w' hr hf => ?_) (fun v => ?_)
  · have h1 := J.out.drew.same hr
    unfold Gives gives
    go_simp
    refine (full_st h1.st 1 1 _ _ rfl rfl).mono ?_
    rintro e w14 ⟨b2, rfl, hb2, -, o14, -⟩
    exact ⟨_, rfl, o14, b2, rfl, hb2⟩
  simp only [Act.put, List.setIfInBounds_toArray, List.set_cons_zero, List.set_cons_succ]
  refine grow_read (.string (strOf (fullBytes 1 1))) rfl (fun w' hr hf => ?_) ?_
  · have h9 := hf 34 (by kernel_rfl)
    rw [upd_self] at h9
    obtain ⟨b2, rfl, hb2⟩ := h9
    have h1 := conv_any (fullBytes 1 1) (fullBytes_length 1 1) b2 w' hb2
    unfold Runs
    go_simp
  simp only [Act.put, List.setIfInBounds_toArray, List.set_cons_zero, List.set_cons_succ]
  iterate 3 (refine grow_det ?_ rfl (fun w' => ?_) ?_; rotate_left 1; (unfold Runs; go_simp; rfl); try simp only [Act.put, List.setIfInBounds_toArray, List.set_cons_zero, List.set_cons_succ])
  refine grow_end (fun w10 hr hf => ?_)
  clear hf
  have O9 := Lib.hid (O.out.drew.trans hr)
  clear hr
  go_wp2_with fail
  go_ret
  exact ⟨rfl, O9.out⟩
end Go.Proofs.Ytpmlmjbhgonegaa
