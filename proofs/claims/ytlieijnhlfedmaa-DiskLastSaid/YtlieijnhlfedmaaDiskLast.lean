/- DiskLast: a block has what was written there last, and a write changes no other block: for any row of calls (no condition). -/
import Derived.Test.YtlieijnhlfedmaaRows
import Derived.Test.YtlieijnhlfedmaaDiskOps
import Derived.ShutString
import Derived.ChangeOld
namespace Go.Proofs.Ytlieijnhlfedmaa.diskLast
open Go.ChangeShapes Go.WideShapes Go.ChangeAt Go.RowKit
open Go.ChangeMaps (open_string shut_string)
set_option linter.unusedVariables false

theorem own : ownKnob Try.prog.godebug = none := by kernel_rfl
theorem laidOut : laidOutB Try.prog = true := by kernel_rfl
def zeros8 : List UInt8 := List.replicate 8 0

set_option maxRecDepth 100000 in
set_option maxHeartbeats 2000000 in
theorem walk (a0 : Option Addr) (len0 cap0 : Nat) (w : World) (w0 : OpsAt w a0 len0) :
    Calls Try.prog 4 #[.slice a0 len0 cap0] w fun e w' => e = .returned (.bool true) ∧ Below w.heap.size w w' := by
  have hlen := w0.1
  have hbuild : ∀ w, (Instr.build 37 #[]).run Try.prog w = .ok (.agg (bvs zeros8)) w := fun w => by kernel_rfl
  have hzero : ∀ w, (zeroValue 37).run Try.prog w = .ok (.agg (bvs zeros8)) w := fun w => by kernel_rfl
  have hsz : (bvs zeros8).size = 8 := by rfl
  have hst := fun w => run_storeCells_new Try.prog w (bvs zeros8) zeros8 37 rfl
  go_enter Try.func4, Try.ntmps4
  go_wp2_with fail
  refine (shown_calls w).mono ?_
  rintro e w1 ⟨rfl, hb⟩
  have HB := Lib.hid hb
  clear hb
  go_wp2_with fail
  refine (new_st w.heap.size w w1 8 (by omega) (by omega) HB.out.size HB.out).mono ?_
  rintro e w3 ⟨p, r, rfl, s2, -, -, -⟩
  go_upto_block 0 with (fail)
  obtain ⟨wb, hwb⟩ : ∃ wb, wb = w3.heap.size := ⟨_, rfl⟩
  obtain ⟨w4, hw4⟩ : ∃ w4, w4 = w3.alloc (.cells (bvs zeros8) 37) := ⟨_, rfl⟩
  rw [← hwb, ← hw4]
  have o4 : Only (fun _ => False) w3 w4 := by rw [hw4]; exact (Only.refl _ _).alloc _
  have s4 := s2.same o4
  have hrow4 : w4.heap[wb]? = some (.cells (bvs zeros8) 37 (0, 0)) := by rw [hw4, hwb, heap_alloc_new]
  have hwp : wb ≠ p := by have := lt_of_heap s2.disk.cells; omega
  have hwr : wb ≠ r := by obtain ⟨es, c, hm, _⟩ := s2.disk.map; have := lt_of_heap hm; omega
  have hwB : w.heap.size ≤ wb := by rw [hwb]; exact s2.hB
  have S4 := Lib.hid s4
  have R4 := Lib.hid hrow4
  clear s2 s4 o4 hrow4 hw4 hwb hbuild hzero hsz hst
  have W0 := Lib.hid w0
  clear w0
  go_wp2_with fail
  go_loopw [7] (fun i wr => ∃ (k : Nat) (wl : List UInt8) (D : DK), k ≤ len0 ∧ k ≤ 100 ∧ i = .int .i64 k ∧ Fulls 8 k D wl ∧ DSt w.heap.size w wr p r D ∧ wr.heap[wb]? = some (.cells (bvs wl) 37 (0, 0))) (fun i _ => 100 - (intOf i).toNat)
  case atStart => exact ⟨0, zeros8, _, Nat.zero_le _, Nat.zero_le _, rfl, Fulls.start 8, S4.out, R4.out⟩
  case round =>
    obtain ⟨k, wl, D, hkl, hk100, rfl, hrel, hst, hrow⟩ := hrel
    have HREL := Lib.hid hrel
    have HST := Lib.hid hst
    have HROW := Lib.hid hrow
    clear hrel hst hrow
    by_cases hgo : k < len0 ∧ k < 100
    · obtain ⟨hlt, hlt100⟩ := hgo
      obtain ⟨x, kd, at_, nn, c, rfl, hxl, hc0, hc1, hc2, hc3, hk0, hk1, hk2⟩ := W0.out.2 k hlt
      have HC1 := fun w' (h : Below w.heap.size w w') => (h.cell (p := ⟨(x.add (k * 4)).block, (x.add (k * 4)).off + 1, none⟩) (by simp only [add_block]; exact hxl)).trans hc1
      have HC3 := fun w' (h : Below w.heap.size w w') => (h.cell (p := ⟨(x.add (k * 4)).block, (x.add (k * 4)).off + 3, none⟩) (by simp only [add_block]; exact hxl)).trans hc3
      have G1 := Lib.hid HC1
      have G3 := Lib.hid HC3
      clear hc0 hc1 hc2 hc3 HC1 HC3
      have hkc := fun w => kind_calls w at_ 8 hk1.1 hk1.2 (by omega) (by omega)
      have hkr := kindOf_range at_ 8 (by omega)
      generalize kindOf at_ 8 = m at *
      obtain ⟨mm, rfl⟩ := Int.eq_ofNat_of_zero_le hkr.1
      have hm8 : mm < 8 := by omega
      have HK := Lib.hid hkc
      clear hkc hk0 hk1 hk2 hkr
      have g1 := G1.out _ HST.out.below
      have g3 := G3.out _ HST.out.below
      unfold bv at g3
      go_wp2_with fail
      refine (HK.out _).mono ?_
      rintro e w5 ⟨rfl, rfl⟩
      go_wp2_with fail
      refine (full_st HST.out c _ rfl).mono ?_
      rintro e w5 ⟨fb, rfl, fr, s5, o5, -⟩
      have hrow5 := o5.keeps HROW.out (fun h => h)
      go_wp2_with fail
      refine (write_st s5 _ _ _ 64 64 (blockOf_length c) (.of_row fr) (HREL.out.fine (by omega))).mono ?_
      obtain ⟨e1, e2⟩ := HREL.out.next mm hm8 c
      generalize D.write (mm : Int) (blockOf c) = DD at *
      obtain ⟨D', code⟩ := DD
      simp only at e1 e2
      subst e1
      rintro e w6 ⟨rfl, s6, o6⟩
      have hrow6 := o6.keeps hrow5 (fun h => by rcases h with h | h; exact hwp h; exact hwr h)
      have g6 := G3.out _ s6.below
      unfold bv at g6
      have hcw := bvs_cell hrow6 (j := mm) (by rw [HREL.out.wlen]; omega)
      have hfw := freeOf hrow6 mm
      have s7 := s6.put wb mm (bv c) hwB hwp hwr
      have hrow7 : (w6.setCell ⟨wb, mm, none⟩ (bv c)).heap[wb]? = some (.cells (bvs (wl.set mm c)) 37 (0, 0)) := by
        rw [heap_setCell_same w6 wb mm _ _ _ hrow6, ← bvs_set]
      unfold bv at s7 hrow7
      have S7 := Lib.hid s7
      have HROW7 := Lib.hid hrow7
      have HREL2 := Lib.hid e2
      clear e2 fr s5 o5 o6 hrow5 hrow6 s6 s7 hrow7 g1 g3 HROW HREL HST HK
      generalize wl.set mm c = wl at *
      go_wp2_with fail
      have HREL := HREL2
      clear HREL2
      generalize hww : w6.setCell ⟨wb, mm, none⟩ (Value.int IntKind.u8 ↑c.toNat) = ww at *
      clear hww g6 hcw hfw
      go_loopw [10] (fun i wr => ∃ j : Nat, j ≤ 8 ∧ i = .int .i64 j ∧ DSt w.heap.size w wr p r D' ∧ wr.heap[wb]? = some (.cells (bvs wl) 37 (0, 0))) (fun i _ => 8 - (intOf i).toNat)
      case atStart => exact ⟨0, by omega, rfl, S7.out, HROW7.out⟩
      case round =>
        obtain ⟨j, hj, rfl, hs, hrow⟩ := hrel
        have HS := Lib.hid hs
        have HR := Lib.hid hrow
        clear hs hrow S7 HROW7
        by_cases hj8 : j < 8
        · have HCJ := Lib.hid (HREL.out.code j hj8)
          have HG := Lib.hid (HREL.out.get j hj8)
          go_wp2_with fail
          refine (read_st HS.out j HCJ.out).mono ?_
          rw [HG.out]
          rintro e w7 ⟨b7, rfl, r7, -, s7, o7, -⟩
          have hrow7 := o7.keeps HR.out (fun h => h)
          clear o7
          go_wp2_with fail
          have R7 := Lib.hid r7.drew
          have S7 := Lib.hid s7.drew
          have HROW7 := Lib.hid hrow7
          clear r7 s7 hrow7
          generalize hcc : wl.getD j 0 = c at *
          have HCC := Lib.hid hcc
          clear hcc
          have HCW : Hid (∀ w', Only (fun _ => False) w7.drew w' → w'.cell? ⟨wb, j, none⟩ = some (.int .u8 (c.toNat : Int))) := fun w' hr => by
            have h1 : w7.drew.heap[wb]? = some (.cells (bvs wl) 37 (0, 0)) := HROW7.out
            have h2 := bvs_cell (hr.keeps h1 (fun h => h)) (j := j) (by rw [HREL.out.wlen]; omega)
            rw [HCC.out] at h2
            exact h2
          refine wp_region_grow (Only (fun _ => False)) (fun | 8 => some (fun v w' => ∃ b, v = .slice (some ⟨b, 0, none⟩) 64 64 ∧ RowAt w' ⟨b, 0, none⟩ (blockOf c)) | _ => none) (by kernel_rfl) (by kernel_rfl) (Only.refl _) (fun _ _ _ => Only.trans) ?_ ?_
          · intro i V hV v w1 w2 hr hv
            split at hV
            · cases hV
              obtain ⟨b, hb, hrow⟩ := hv
              exact ⟨b, hb, hrow.grow hr (by simp [blockOf])⟩
            · cases hV
          simp only [List.zipIdx_cons, List.zipIdx_nil, Nat.zero_add, Nat.reduceAdd]
          iterate 4 (refine grow_det ?_ rfl (fun w' => ?_) ?_; rotate_left 1; (unfold Runs; go_simp; rfl); try simp only [Act.put, List.setIfInBounds_toArray, List.set_cons_zero, List.set_cons_succ])
          refine grow_read (.string (strOf (blockOf c))) rfl (fun w' hr hf => ?_) ?_
          · have h1 := conv_any (blockOf c) (blockOf_length c) b7 w' (R7.out.grow hr (by simp [blockOf]))
            unfold Runs
            go_simp
          simp only [Act.put, List.setIfInBounds_toArray, List.set_cons_zero, List.set_cons_succ]
          iterate 2 (refine grow_det ?_ rfl (fun w' => ?_) ?_; rotate_left 1; (unfold Runs; go_simp; rfl); try simp only [Act.put, List.setIfInBounds_toArray, List.set_cons_zero, List.set_cons_succ])
          refine grow_read (.int .u8 (c.toNat : Int)) rfl (fun w' hr hf => ?_) ?_
          · have h1 := HCW.out w' hr
            unfold Runs
            go_simp
          simp only [Act.put, List.setIfInBounds_toArray, List.set_cons_zero, List.set_cons_succ]
          refine grow_pred _ rfl (fun w' hr hf => ?_) (fun v => ?_)
          · have h1 := S7.out.same hr
            unfold Gives gives
            go_simp
            refine (full_st h1 c _ rfl).mono ?_
            rintro e w14 ⟨b6, rfl, r6, -, o14, -⟩
            exact ⟨_, rfl, o14, b6, rfl, r6⟩
          simp only [Act.put, List.setIfInBounds_toArray, List.set_cons_zero, List.set_cons_succ]
          refine grow_read (.string (strOf (blockOf c))) rfl (fun w' hr hf => ?_) ?_
          · have h1 := hf 8 (by kernel_rfl)
            rw [upd_self] at h1
            obtain ⟨b6, rfl, r6⟩ := h1
            have h2 := conv_any (blockOf c) (blockOf_length c) b6 w' r6
            unfold Runs
            go_simp
          simp only [Act.put, List.setIfInBounds_toArray, List.set_cons_zero, List.set_cons_succ]
          iterate 2 (refine grow_det ?_ rfl (fun w' => ?_) ?_; rotate_left 1; (unfold Runs; go_simp; rfl); try simp only [Act.put, List.setIfInBounds_toArray, List.set_cons_zero, List.set_cons_succ])
          refine grow_end (fun w8 hr hf => ?_)
          clear hf
          have S8 := Lib.hid (S7.out.same hr)
          have HR8 := Lib.hid (hr.keeps (w := w7.drew) HROW7.out (fun h => h))
          clear hr
          go_wp2_with fail
          go_roundw
          case rel => exact ⟨j + 1, by omega, by go_num, S8.out, HR8.out⟩
          case measure => simp [intOf]; omega
        · go_wp2_with fail
          go_roundw
          case rel => exact ⟨k + 1, wl, D', by omega, by omega, by go_num, HREL.out, HS.out, HR.out⟩
          case measure => simp [intOf]; omega
    · have hstop : len0 ≤ k ∨ (k < len0 ∧ 100 ≤ k) := by omega
      clear hgo
      rcases hstop with hstop | ⟨hstop, hstop2⟩
      · go_wp2_with fail
        go_ret
        exact ⟨rfl, HST.out.below⟩
      · go_wp2_with fail
        go_ret
        exact ⟨rfl, HST.out.below⟩

/-! ### THE ROW's STEP -/
set_option maxRecDepth 100000 in
theorem lifted (os : Os) (started : os.Started) (H : Type) (enc : TypeId × Value → H) :
    ReturnsInHanded {} Try.checked os 4 .any (Rows.diskLastSpec.pre6 enc Try.prog Try.f4 Rows.diskLastRow.domain false) (Rows.diskLastSpec.post enc Try.prog Try.f4 false true false false) := by
  refine returnsInHanded_of_change (C := Try.checked) own started (by kernel_rfl) Try.func4
    (ChangeSpec.witness6 (enc := enc) (C := Try.checked) false ⟨#[], #[.slice none 0 0], []⟩ 8 (by kernel_rfl) (by kernel_rfl) (by kernel_rfl) (by kernel_rfl)) ?_
  intro W base args ds gs before hval0 hW hcnd _
  have hval : ∀ (j : Nat) t v, Try.f4.params[j]? = some t → args[j]? = some v → Value.okWide Try.prog W .any base t v := hval0
  have hW' := hW
  obtain ⟨p, q, hA0, hV, rfl, hfz, hnd⟩ := hW
  have hA : DataW.TrodAll enc Try.prog W 0 (fun _ => true) true Try.f4.params.toList args.toList ds p := hA0
  rw [Try.params4] at hA hval
  obtain ⟨v0, vs0, d0, ds0, p0, q0, hargs, rfl, rfl, h0, r0⟩ := trodAll_cons hA
  obtain ⟨rfl, rfl, rfl⟩ := trodAll_nil r0
  obtain rfl : args = #[v0] := by cases args; simp_all
  obtain ⟨rfl, rfl⟩ := trodVars_none hV
  obtain ⟨a0, len0, cap0, rfl⟩ := okWide_slice Try.underlying36 (hval 0 36 v0 rfl rfl)
  have k0 := h0
  have lt0 : ∀ x ∈ p0, x.block < W.heap.size := by obtain ⟨m, hm⟩ := k0; exact DataW.trod_lt m _ _ _ hm
  have w0 : OpsAt W a0 len0 := by
    obtain ⟨fuel, hf⟩ := h0
    exact ops_open hf
  clear hA0 hval0
  refine (walk a0 len0 cap0 W w0).mono fun e W' ⟨he, bel⟩ => ?_
  subst he
  exact ⟨_, rfl, _, _, _, [], _, [], hW', trodAll_mk1 (shut_bool Try.underlying4 _), (trodAll_cons_mk (Below.trod laidOut (by kernel_rfl) (of_decide_eq_true (by kernel_rfl)) k0 bel lt0) trodAll_mk0), rfl, bel.frame _, fun h => by cases h⟩

theorem over : Rows.diskLastRow.holds Try.pinned (OpenSpec.ofChange Rows.diskLastSpec) :=
  OpenClaim.holds_of_wide 4 Try.f4 rfl rfl rfl rfl rfl rfl rfl ⟨rfl, rfl, rfl, rfl, rfl⟩ rfl rfl rfl rfl rfl (by kernel_rfl) Try.func4 (by kernel_rfl)
    (of_decide_eq_true (by kernel_rfl)) (by unfold Func.isWrapper; first | (rw [if_pos (by decide +kernel)]; kernel_rfl) | (rw [if_neg (by decide +kernel)]; exact ⟨rfl, rfl⟩))
    (fun os started H enc _ => lifted os started H enc)

theorem proved : Rows.DiskLastSaid := over
#print axioms proved
end Go.Proofs.Ytlieijnhlfedmaa.diskLast
