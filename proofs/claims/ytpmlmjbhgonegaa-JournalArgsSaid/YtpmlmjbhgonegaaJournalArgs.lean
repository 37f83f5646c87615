/- JournalArgs: a journal is formatted, and opened, just where there is room for it, and it writes to no other block: for any ints. -/
import Derived.Test.YtpmlmjbhgonegaaRows
import Derived.Test.YtpmlmjbhgonegaaJShown
import Derived.ProofKit
import Derived.OpenShut
import Derived.ShutString
import Derived.ChangeOld
namespace Go.Proofs.Ytpmlmjbhgonegaa.journalArgs
open Go.ChangeShapes Go.WideShapes Go.ChangeAt Go.RowKit
open Go.ChangeMaps (open_string shut_string)
set_option linter.unusedVariables false

theorem own : ownKnob Try.prog.godebug = none := by kernel_rfl
theorem laidOut : laidOutB Try.prog = true := by kernel_rfl

def newDK (n : Int) : DK := ⟨n, false, -1, 0, fun _ => none⟩
theorem newDK_get (n i : Int) : (newDK n).get i = zeros64 := rfl
theorem newDK_fit (n : Int) : Fit (newDK n) n 0 := ⟨rfl, rfl, rfl, ⟨show (-1 : Int) ≤ 9223372036854775807 by decide, show (0 : Int) ≤ 0 by decide, show (0 : Int) ≤ 0 by decide⟩⟩
theorem newDK_num (n at_ : Int) : (∀ k, k < 8 → ((newDK n).get at_)[8 + k]? = some (be8 0 k)) ∧ ((newDK n).get at_)[16]? = some (UInt8.ofNat 0) := by
  refine ⟨fun k hk => ?_, by rw [newDK_get]; rfl⟩
  rw [newDK_get]
  unfold zeros64 be8
  rw [List.getElem?_replicate, if_pos (by omega)]
  simp
theorem only_below {w w' : World} (o : Only (fun _ => False) w w') : Below w.heap.size w w' := o.below (Below.refl _ _) (Nat.le_refl _) (fun _ e => e.elim)

set_option maxRecDepth 100000 in
set_option maxHeartbeats 4000000 in
theorem walk (b a : Int) (w : World) (wb : (Lit.int .i64 b).wf = true) (wa : (Lit.int .i64 a).wf = true) :
    Calls Try.prog 3 #[.int .i64 b, .int .i64 a] w fun e w' => e = .returned (.bool true) ∧ Below w.heap.size w w' := by
  have hb := wf64 wb
  have ha := wf64 wa
  unfold I64 at hb ha
  clear wb wa
  have SH := Lib.hid (shown_calls w)
  by_cases hin : 1 ≤ b ∧ b ≤ 4096
  · obtain ⟨hb1, hb2⟩ := hin
    have hws : IntKind.i64.wrap (b - 199) = b - 199 := IntWalk.i64_in _ (by omega)
    go_enter Try.func3, Try.ntmps3
    go_wp2_with fail
    refine SH.out.mono ?_
    rintro e w1 ⟨rfl, o1⟩
    have HB := Lib.hid (only_below o1)
    clear o1
    go_wp2_with fail
    refine (new_st w.heap.size w w1 b hb1 hb2 HB.out.size HB.out).mono ?_
    rintro e w2 ⟨p, r, rfl, s2, -, -, -⟩
    have S := Lib.hid s2
    have hS : DSt w.heap.size w w2 p r (newDK b) := s2
    have S := Lib.hid hS
    clear s2 hS
    obtain ⟨hnum, hhand⟩ := newDK_num b a
    by_cases hroom : 0 ≤ a ∧ a ≤ b - 199
    · have hrm : roomAt (newDK b) a = true := by unfold roomAt; exact decide_eq_true hroom
      have HRM := Lib.hid hrm
      obtain ⟨ha1, ha2⟩ := hroom
      have hcode : (newDK b).code a = 0 := code_on rfl ha1 (show a < b by omega)
      obtain ⟨-, -, hjo⟩ := jOpen_none hrm hcode rfl
      have hop := open_calls S.out a hb1 hb2 0 0 (by decide) hnum hhand (by decide) 0 (newDK_fit b).under (by decide)
      rw [hjo] at hop
      have HOP := Lib.hid hop
      clear hop hjo hcode hrm hnum hhand
      have hm1 : (a ≤ b - 199) := ha2
      go_wp2_with fail
      refine HOP.out.mono ?_
      rintro e w3 ⟨v, rfl, hres, o3⟩
      obtain ⟨rfl, s3⟩ := hres.2 (by decide)
      have S := Lib.hid s3
      clear hres o3 s3
      obtain ⟨n1, c1, -⟩ := jFormat_spec (E := zeroImg) ha1 (show a + 199 ≤ b by omega) (newDK_fit b).off (newDK_fit b).len (fun n _ => rfl)
      have u1 := jFormat_under (newDK_fit b).under a
      obtain ⟨e1, f1⟩ := (newDK_fit b).next n1 u1
      have hcl := c1 e1
      have hfc := format_calls S.out a hb1 hb2 ((newDK_fit b).under.fine (by decide))
      rw [e1] at hfc
      obtain ⟨D1, hD1⟩ : ∃ D1, D1 = (jFormat (newDK b) a).1 := ⟨_, rfl⟩
      rw [← hD1] at hfc f1 hcl
      have HF := Lib.hid hfc
      have F := Lib.hid f1
      have CL := Lib.hid hcl
      clear hfc f1 hcl n1 c1 u1 e1 hD1
      go_wp2_with fail
      refine HF.out.mono ?_
      rintro e w4 ⟨rfl, s4, o4⟩
      have S := Lib.hid s4
      clear s4 o4
      go_wp2_with fail
      refine (open_fit S.out _ F.out ha1 (show a + 199 ≤ b by omega) hb2 (by decide) (by decide) (.inl CL.out)).mono ?_
      rintro e w5 ⟨jb, D2, rfl, -, j5, f5, cl5, o5⟩
      have J := Lib.hid j5
      have F := Lib.hid f5
      have CL := Lib.hid cl5
      clear j5 f5 cl5 o5
      go_wp2_with fail
      refine (groups_calls w5 p jb a _ J.out.cells).mono ?_
      rintro e w6 ⟨rfl, rfl⟩
      have hw1 : IntKind.i64.wrap (a + 199) = a + 199 := IntWalk.i64_in _ (by omega)
      go_wp2_with fail
      go_loopw [14] (fun i wr => ∃ k : Nat, i = .int .i64 k ∧ (k : Int) ≤ b ∧ JSt w.heap.size w wr p r D2 jb a ((0 : Nat) : Int)) (fun i _ => b.toNat - (intOf i).toNat)
      case atStart => exact ⟨0, rfl, by omega, J.out⟩
      case round =>
        obtain ⟨k, rfl, hk, j7⟩ := hrel
        have J := Lib.hid j7
        clear j7
        by_cases hlt : (k : Int) < b
        · have hrd := read_st J.out.st k (code_on F.out.off (by omega) (by rw [F.out.len]; exact hlt))
          have HRD := Lib.hid hrd
          clear hrd
          have hmk : ∀ w, (Instr.makeSlice 32 (.int .i64 64) (.int .i64 64)).run Try.prog w = .ok (.slice (some ⟨w.heap.size, 0, none⟩) 64 64) (w.alloc (.cells (bvs zeros64) 5)) := fun w => by kernel_rfl
          go_wp2_with fail
          refine HRD.out.mono ?_
          rintro e w7 ⟨b7, rfl, hrow, -, s7, o7, -⟩
          have J := Lib.hid (J.out.same o7)
          have ROW := Lib.hid hrow
          clear hrow s7 o7
          go_wp2_with fail
          by_cases hlo : (k : Int) < a
          · have R7 := Lib.hid (show RowAt w7 ⟨b7, 0, none⟩ zeros64 from by have := ROW.out; rw [CL.out.out k (by unfold inJ; omega)] at this; exact this)
            refine wp_region_grow (Only (fun _ => False)) (fun | 15 => some (BlockRes zeros64) | _ => none) (by kernel_rfl) (by kernel_rfl) (Only.refl _) (fun _ _ _ => Only.trans) ?_ ?_
            · intro i V hV v w1 w2 hr hv
              split at hV
              · cases hV
                exact hv.grow (by simp [zeros64]) hr
              · cases hV
            simp only [List.zipIdx_cons, List.zipIdx_nil, Nat.zero_add, Nat.reduceAdd]
            iterate 5 (refine grow_det ?_ rfl (fun w' => ?_) ?_; rotate_left 1; (unfold Runs; go_simp; rfl); try simp only [Act.put, List.setIfInBounds_toArray, List.set_cons_zero, List.set_cons_succ])
            refine grow_det (.bool true) rfl (fun w' => ?_) ?_
            · unfold Runs
              go_simp
              all_goals (first | rfl | (simp; omega))
            simp only [Act.put, List.setIfInBounds_toArray, List.set_cons_zero, List.set_cons_succ]
            iterate 1 (refine grow_det ?_ rfl (fun w' => ?_) ?_; rotate_left 1; (unfold Runs; go_simp; rfl); try simp only [Act.put, List.setIfInBounds_toArray, List.set_cons_zero, List.set_cons_succ])
            iterate 4 (refine grow_det ?_ rfl (fun w' => ?_) ?_; rotate_left 1; (unfold Runs; go_simp; rfl); try simp only [Act.put, List.setIfInBounds_toArray, List.set_cons_zero, List.set_cons_succ])
            iterate 2 (refine grow_det ?_ rfl (fun w' => ?_) ?_; rotate_left 1; (unfold Runs; go_simp; rfl); try simp only [Act.put, List.setIfInBounds_toArray, List.set_cons_zero, List.set_cons_succ])
            iterate 1 (refine grow_det ?_ rfl (fun w' => ?_) ?_; rotate_left 1; (unfold Runs; go_simp; rfl); try simp only [Act.put, List.setIfInBounds_toArray, List.set_cons_zero, List.set_cons_succ])
            refine grow_read (.string (strOf zeros64)) rfl (fun w' hr hf => ?_) ?_
            · have h1 := conv_any zeros64 (by simp [zeros64]) b7 w' (R7.out.drew.grow hr (by simp [zeros64]))
              unfold Runs
              go_simp
            simp only [Act.put, List.setIfInBounds_toArray, List.set_cons_zero, List.set_cons_succ]
            refine grow_pred _ rfl (fun w' hr hf => ?_) (fun v => ?_)
            · have h1 := hmk w'
              unfold Gives gives
              go_simp
              exact ⟨(Only.refl _ w').alloc _, _, rfl, .of_cells (heap_alloc_new _ _)⟩
            simp only [Act.put, List.setIfInBounds_toArray, List.set_cons_zero, List.set_cons_succ]
            refine grow_read (.string (strOf zeros64)) rfl (fun w' hr hf => ?_) ?_
            · have h9 := hf 15 (by kernel_rfl)
              rw [upd_self] at h9
              obtain ⟨b2, rfl, hb2⟩ := h9
              have h1 := conv_any zeros64 (by simp [zeros64]) b2 w' hb2
              unfold Runs
              go_simp
            simp only [Act.put, List.setIfInBounds_toArray, List.set_cons_zero, List.set_cons_succ]
            iterate 3 (refine grow_det ?_ rfl (fun w' => ?_) ?_; rotate_left 1; (unfold Runs; go_simp; rfl); try simp only [Act.put, List.setIfInBounds_toArray, List.set_cons_zero, List.set_cons_succ])
            refine grow_end (fun w9 hr hf => ?_)
            have h9 := hf 15
            rw [upd_self] at h9
            obtain ⟨b9, rfl, h99⟩ := h9
            clear h99
            clear hf
            have J := Lib.hid (J.out.drew.same hr)
            clear hr
            go_wp2_with fail
            go_roundw
            case rel => exact ⟨k + 1, by go_num, by omega, J.out⟩
            case measure => simp [intOf]; omega
          · by_cases hhi : a + 199 ≤ (k : Int)
            · have R7 := Lib.hid (show RowAt w7 ⟨b7, 0, none⟩ zeros64 from by have := ROW.out; rw [CL.out.out k (by unfold inJ; omega)] at this; exact this)
              refine wp_region_grow (Only (fun _ => False)) (fun | 15 => some (BlockRes zeros64) | _ => none) (by kernel_rfl) (by kernel_rfl) (Only.refl _) (fun _ _ _ => Only.trans) ?_ ?_
              · intro i V hV v w1 w2 hr hv
                split at hV
                · cases hV
                  exact hv.grow (by simp [zeros64]) hr
                · cases hV
              simp only [List.zipIdx_cons, List.zipIdx_nil, Nat.zero_add, Nat.reduceAdd]
              iterate 5 (refine grow_det ?_ rfl (fun w' => ?_) ?_; rotate_left 1; (unfold Runs; go_simp; rfl); try simp only [Act.put, List.setIfInBounds_toArray, List.set_cons_zero, List.set_cons_succ])
              refine grow_det (.bool false) rfl (fun w' => ?_) ?_
              · unfold Runs
                go_simp
                all_goals (first | rfl | (simp; omega))
              simp only [Act.put, List.setIfInBounds_toArray, List.set_cons_zero, List.set_cons_succ]
              iterate 1 (refine grow_det ?_ rfl (fun w' => ?_) ?_; rotate_left 1; (unfold Runs; go_simp; rfl); try simp only [Act.put, List.setIfInBounds_toArray, List.set_cons_zero, List.set_cons_succ])
              iterate 2 (refine grow_det ?_ rfl (fun w' => ?_) ?_; rotate_left 1; (unfold Runs; go_simp; rfl); try simp only [Act.put, List.setIfInBounds_toArray, List.set_cons_zero, List.set_cons_succ])
              refine grow_det (.int .i64 (a + 199)) rfl (fun w' => ?_) ?_
              · unfold Runs
                go_simp
                all_goals (first | rfl | (rw [hw1]))
              simp only [Act.put, List.setIfInBounds_toArray, List.set_cons_zero, List.set_cons_succ]
              refine grow_det (.bool true) rfl (fun w' => ?_) ?_
              · unfold Runs
                go_simp
                all_goals (first | rfl | (simp; omega))
              simp only [Act.put, List.setIfInBounds_toArray, List.set_cons_zero, List.set_cons_succ]
              iterate 2 (refine grow_det ?_ rfl (fun w' => ?_) ?_; rotate_left 1; (unfold Runs; go_simp; rfl); try simp only [Act.put, List.setIfInBounds_toArray, List.set_cons_zero, List.set_cons_succ])
              iterate 1 (refine grow_det ?_ rfl (fun w' => ?_) ?_; rotate_left 1; (unfold Runs; go_simp; rfl); try simp only [Act.put, List.setIfInBounds_toArray, List.set_cons_zero, List.set_cons_succ])
              refine grow_read (.string (strOf zeros64)) rfl (fun w' hr hf => ?_) ?_
              · have h1 := conv_any zeros64 (by simp [zeros64]) b7 w' (R7.out.drew.grow hr (by simp [zeros64]))
                unfold Runs
                go_simp
              simp only [Act.put, List.setIfInBounds_toArray, List.set_cons_zero, List.set_cons_succ]
              refine grow_pred _ rfl (fun w' hr hf => ?_) (fun v => ?_)
              · have h1 := hmk w'
                unfold Gives gives
                go_simp
                exact ⟨(Only.refl _ w').alloc _, _, rfl, .of_cells (heap_alloc_new _ _)⟩
              simp only [Act.put, List.setIfInBounds_toArray, List.set_cons_zero, List.set_cons_succ]
              refine grow_read (.string (strOf zeros64)) rfl (fun w' hr hf => ?_) ?_
              · have h9 := hf 15 (by kernel_rfl)
                rw [upd_self] at h9
                obtain ⟨b2, rfl, hb2⟩ := h9
                have h1 := conv_any zeros64 (by simp [zeros64]) b2 w' hb2
                unfold Runs
                go_simp
              simp only [Act.put, List.setIfInBounds_toArray, List.set_cons_zero, List.set_cons_succ]
              iterate 3 (refine grow_det ?_ rfl (fun w' => ?_) ?_; rotate_left 1; (unfold Runs; go_simp; rfl); try simp only [Act.put, List.setIfInBounds_toArray, List.set_cons_zero, List.set_cons_succ])
              refine grow_end (fun w9 hr hf => ?_)
              have h9 := hf 15
              rw [upd_self] at h9
              obtain ⟨b9, rfl, h99⟩ := h9
              clear h99
              clear hf
              have J := Lib.hid (J.out.drew.same hr)
              clear hr
              go_wp2_with fail
              go_roundw
              case rel => exact ⟨k + 1, by go_num, by omega, J.out⟩
              case measure => simp [intOf]; omega
            · skip
              refine wp_region_grow (Only (fun _ => False)) (fun | 15 => some (fun v _ => v = undef) | _ => none) (by kernel_rfl) (by kernel_rfl) (Only.refl _) (fun _ _ _ => Only.trans) ?_ ?_
              · intro i V hV v w1 w2 hr hv
                split at hV
                · cases hV
                  exact hv
                · cases hV
              simp only [List.zipIdx_cons, List.zipIdx_nil, Nat.zero_add, Nat.reduceAdd]
              iterate 5 (refine grow_det ?_ rfl (fun w' => ?_) ?_; rotate_left 1; (unfold Runs; go_simp; rfl); try simp only [Act.put, List.setIfInBounds_toArray, List.set_cons_zero, List.set_cons_succ])
              refine grow_det (.bool false) rfl (fun w' => ?_) ?_
              · unfold Runs
                go_simp
                all_goals (first | rfl | (simp; omega))
              simp only [Act.put, List.setIfInBounds_toArray, List.set_cons_zero, List.set_cons_succ]
              iterate 1 (refine grow_det ?_ rfl (fun w' => ?_) ?_; rotate_left 1; (unfold Runs; go_simp; rfl); try simp only [Act.put, List.setIfInBounds_toArray, List.set_cons_zero, List.set_cons_succ])
              iterate 2 (refine grow_det ?_ rfl (fun w' => ?_) ?_; rotate_left 1; (unfold Runs; go_simp; rfl); try simp only [Act.put, List.setIfInBounds_toArray, List.set_cons_zero, List.set_cons_succ])
              refine grow_det (.int .i64 (a + 199)) rfl (fun w' => ?_) ?_
              · unfold Runs
                go_simp
                all_goals (first | rfl | (rw [hw1]))
              simp only [Act.put, List.setIfInBounds_toArray, List.set_cons_zero, List.set_cons_succ]
              refine grow_det (.bool false) rfl (fun w' => ?_) ?_
              · unfold Runs
                go_simp
                all_goals (first | rfl | (simp; omega))
              simp only [Act.put, List.setIfInBounds_toArray, List.set_cons_zero, List.set_cons_succ]
              iterate 2 (refine grow_det ?_ rfl (fun w' => ?_) ?_; rotate_left 1; (unfold Runs; go_simp; rfl); try simp only [Act.put, List.setIfInBounds_toArray, List.set_cons_zero, List.set_cons_succ])
              iterate 2 (refine grow_det ?_ rfl (fun w' => ?_) ?_; rotate_left 1; (unfold Runs; go_simp; rfl); try simp only [Act.put, List.setIfInBounds_toArray, List.set_cons_zero, List.set_cons_succ])
              refine grow_pred _ rfl (fun w' hr hf => ?_) (fun v => ?_)
              · unfold Gives
                go_simp
                exact Only.refl _ _
              simp only [Act.put, List.setIfInBounds_toArray, List.set_cons_zero, List.set_cons_succ]
              iterate 4 (refine grow_det ?_ rfl (fun w' => ?_) ?_; rotate_left 1; (unfold Runs; go_simp; rfl); try simp only [Act.put, List.setIfInBounds_toArray, List.set_cons_zero, List.set_cons_succ])
              refine grow_end (fun w9 hr hf => ?_)
              have h9 := hf 15
              rw [upd_self] at h9
              subst h9
              clear hf
              have J := Lib.hid (J.out.drew.same hr)
              clear hr
              go_wp2_with fail
              go_roundw
              case rel => exact ⟨k + 1, by go_num, by omega, J.out⟩
              case measure => simp [intOf]; omega
        · have hkb : (k : Int) = b := by omega
          go_wp2_with fail
          go_ret
          exact ⟨rfl, J.out.st.below⟩
    · have hrm : roomAt (newDK b) a = false := by unfold roomAt; exact decide_eq_false hroom
      have hjo : jOpen (newDK b) a 0 0 = (newDK b, 1) := by unfold jOpen; rw [if_pos hrm]
      have hop := fun w' (s : DSt w.heap.size w w' p r (newDK b)) => open_calls s a hb1 hb2 0 0 (by decide) hnum hhand (by decide) 0 (newDK_fit b).under (by decide)
      simp only [hjo] at hop
      have HOP := Lib.hid hop
      have hfo : jFormat (newDK b) a = (newDK b, 1) := by unfold jFormat; rw [if_neg (by rw [hrm]; decide)]
      have HFO := Lib.hid hfo
      clear hop hjo hrm hnum hhand hfo
      have hcase : a < 0 ∨ (0 ≤ a ∧ b - 199 < a) := by omega
      clear hroom
      rcases hcase with hc1 | ⟨hc1, hc2⟩
      · go_wp2_with fail
        refine (HOP.out _ S.out).mono ?_
        rintro e w3 ⟨v, rfl, hres, o3⟩
        obtain ⟨rfl, s3⟩ := hres.2 (by decide)
        have S := Lib.hid s3
        clear hres o3 s3
        go_wp2_with fail
        have hfc := format_calls S.out a hb1 hb2 ((newDK_fit b).under.fine (by decide))
        rw [HFO.out] at hfc
        refine hfc.mono ?_
        clear hfc
        rintro e w4 ⟨rfl, s4, o4⟩
        have S := Lib.hid s4
        clear s4 o4
        go_wp2_with fail
        refine (HOP.out _ S.out).mono ?_
        rintro e w5 ⟨v, rfl, hres, o3⟩
        obtain ⟨rfl, s3⟩ := hres.2 (by decide)
        have S := Lib.hid s3
        clear hres o3 s3
        go_wp2_with fail
        go_ret
        exact ⟨rfl, S.out.below⟩
      · have hd : decide (a ≤ b - 199) = false := decide_eq_false (by omega)
        go_wp2_with fail
        refine (HOP.out _ S.out).mono ?_
        rintro e w3 ⟨v, rfl, hres, o3⟩
        obtain ⟨rfl, s3⟩ := hres.2 (by decide)
        have S := Lib.hid s3
        clear hres o3 s3
        go_wp2_with fail
        have hfc := format_calls S.out a hb1 hb2 ((newDK_fit b).under.fine (by decide))
        rw [HFO.out] at hfc
        refine hfc.mono ?_
        clear hfc
        rintro e w4 ⟨rfl, s4, o4⟩
        have S := Lib.hid s4
        clear s4 o4
        go_wp2_with fail
        refine (HOP.out _ S.out).mono ?_
        rintro e w5 ⟨v, rfl, hres, o3⟩
        obtain ⟨rfl, s3⟩ := hres.2 (by decide)
        have S := Lib.hid s3
        clear hres o3 s3
        go_wp2_with fail
        go_ret
        exact ⟨rfl, S.out.below⟩
  · have hnew := fun w' => new_refuses w' b (by omega)
    have hbad : ¬ (1 ≤ b ∧ b ≤ 4096) := hin
    have HNEW := Lib.hid hnew
    clear hin hnew hbad
    go_enter Try.func3, Try.ntmps3
    go_wp2_with fail
    refine SH.out.mono ?_
    rintro e w1 ⟨rfl, o1⟩
    have HB := Lib.hid (only_below o1)
    clear o1
    go_wp2_with fail
    refine (HNEW.out w1).mono ?_
    rintro e w2 ⟨rfl, rfl⟩
    go_wp2_with fail
    go_ret
    exact ⟨rfl, HB.out⟩

/-! ### THE ROW's STEP -/
set_option maxRecDepth 100000 in
theorem lifted (os : Os) (started : os.Started) (H : Type) (enc : TypeId × Value → H) :
    ReturnsInHanded {} Try.checked os 3 .any (Rows.journalArgsSpec.pre6 enc Try.prog Try.f3 Rows.journalArgsRow.domain false) (Rows.journalArgsSpec.post enc Try.prog Try.f3 false true false false) := by
  refine returnsInHanded_of_change (C := Try.checked) own started (by kernel_rfl) Try.func3
    (ChangeSpec.witness6 (enc := enc) (C := Try.checked) false ⟨#[], #[.int .i64 0, .int .i64 0], []⟩ 8 (by kernel_rfl) (by kernel_rfl) (by kernel_rfl) (by kernel_rfl)) ?_
  intro W base args ds gs before hval0 hW hcnd _
  have hval : ∀ (j : Nat) t v, Try.f3.params[j]? = some t → args[j]? = some v → Value.okWide Try.prog W .any base t v := hval0
  have hW' := hW
  obtain ⟨p, q, hA0, hV, rfl, hfz, hnd⟩ := hW
  have hA : DataW.TrodAll enc Try.prog W 0 (fun _ => true) true Try.f3.params.toList args.toList ds p := hA0
  rw [Try.params3] at hA hval
  obtain ⟨v0, vs0, d0, ds0, p0, q0, hargs, rfl, rfl, h0, r0⟩ := trodAll_cons hA
  obtain ⟨v1, vs1, d1, ds1, p1, q1, rfl, rfl, rfl, h1, r1⟩ := trodAll_cons r0
  obtain ⟨rfl, rfl, rfl⟩ := trodAll_nil r1
  obtain rfl : args = #[v0, v1] := by cases args; simp_all
  obtain ⟨rfl, rfl⟩ := trodVars_none hV
  obtain ⟨a0, rfl, rfl, rfl, w0⟩ := open_int Try.underlying3 (hval 0 3 v0 rfl rfl) h0
  obtain ⟨a1, rfl, rfl, rfl, w1⟩ := open_int Try.underlying3 (hval 1 3 v1 rfl rfl) h1
  clear hA0 hval0
  refine (walk a0 a1 W w0 w1).mono fun e W' ⟨he, bel⟩ => ?_
  subst he
  exact ⟨_, rfl, _, _, _, [], _, [], hW', trodAll_mk1 (shut_bool Try.underlying4 _), (trodAll_cons_mk (shut_int Try.underlying3 w0) (trodAll_cons_mk (shut_int Try.underlying3 w1) trodAll_mk0)), rfl, bel.frame _, fun h => by cases h⟩

theorem over : Rows.journalArgsRow.holds Try.pinned (OpenSpec.ofChange Rows.journalArgsSpec) :=
  OpenClaim.holds_of_wide 3 Try.f3 rfl rfl rfl rfl rfl rfl rfl ⟨rfl, rfl, rfl, rfl, rfl⟩ rfl rfl rfl rfl rfl (by kernel_rfl) Try.func3 (by kernel_rfl)
    (of_decide_eq_true (by kernel_rfl)) (by unfold Func.isWrapper; first | (rw [if_pos (by decide +kernel)]; kernel_rfl) | (rw [if_neg (by decide +kernel)]; exact ⟨rfl, rfl⟩))
    (fun os started H enc _ => lifted os started H enc)

theorem proved : Rows.JournalArgsSaid := over
#print axioms proved
end Go.Proofs.Ytpmlmjbhgonegaa.journalArgs
