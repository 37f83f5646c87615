/- DiskCounts: just the writes that were answered with OK are counted, and change something: for any row of calls (no condition). -/
import Derived.Test.YtlieijnhlfedmaaRows
import Derived.Test.YtlieijnhlfedmaaDiskOps
import Derived.ShutString
import Derived.ChangeOld
namespace Go.Proofs.Ytlieijnhlfedmaa.diskCounts
open Go.ChangeShapes Go.WideShapes Go.ChangeAt Go.RowKit
open Go.ChangeMaps (open_string shut_string)
set_option linter.unusedVariables false

theorem own : ownKnob Try.prog.godebug = none := by kernel_rfl
theorem laidOut : laidOutB Try.prog = true := by kernel_rfl
theorem opInfo : (Try.prog.info? 39).map (fun i => (i.zero, i.size)) = some (some (.agg #[.int .i64 0, .int .i64 0, .int .i64 0, .int .u8 0]), 4) := by kernel_rfl

/-- The variable o. -/
def opCells (kd at_ n : Int) (b : UInt8) : Array Value := #[.int .i64 kd, .int .i64 at_, .int .i64 n, bv b]

set_option maxRecDepth 100000 in
set_option maxHeartbeats 4000000 in
theorem walk (a0 : Option Addr) (len0 cap0 : Nat) (w : World) (w0 : OpsAt w a0 len0) :
    Calls Try.prog 5 #[.slice a0 len0 cap0] w fun e w' => e = .returned (.bool true) ∧ Below w.heap.size w w' := by
  have hlen := w0.1
  go_enter Try.func5, Try.ntmps5
  go_wp2_with fail
  refine (shown_calls w).mono ?_
  rintro e w1 ⟨rfl, hb⟩
  have HB := Lib.hid hb
  clear hb
  go_wp2_with fail
  refine (new_st w.heap.size w w1 6 (by omega) (by omega) HB.out.size HB.out).mono ?_
  rintro e w3 ⟨p, r, rfl, s2, -, -, -⟩
  have S2 := Lib.hid s2
  clear s2
  have W0 := Lib.hid w0
  clear w0
  go_wp2_with fail
  go_loopw [6, 7] (fun c i wr => ∃ (k n : Nat) (D : DK), k ≤ len0 ∧ k ≤ 100 ∧ n ≤ k ∧ i = .int .i64 k ∧ c = .int .i64 n ∧ Any 6 n D ∧ DSt w.heap.size w wr p r D) (fun _ i _ => 100 - (intOf i).toNat)
  case atStart => exact ⟨0, 0, _, Nat.zero_le _, Nat.zero_le _, Nat.le_refl _, rfl, rfl, Any.start 6, S2.out⟩
  case round =>
    obtain ⟨k, n, D, hkl, hk100, hnk, rfl, rfl, hrel, hst⟩ := hrel
    have HREL := Lib.hid hrel
    have HST := Lib.hid hst
    clear hrel hst
    by_cases hgo : k < len0 ∧ k < 100
    · obtain ⟨hlt, hlt100⟩ := hgo
      obtain ⟨x, kd, at_, nn, c, rfl, hxl, hc0, hc1, hc2, hc3, hk0, hk1, hk2⟩ := W0.out.2 k hlt
      have g0 := (HST.out.below.cell (p := x.add (k * 4)) (by rw [add_block]; exact hxl)).trans hc0
      have g1 := (HST.out.below.cell (p := ⟨(x.add (k * 4)).block, (x.add (k * 4)).off + 1, none⟩) (by simp only [add_block]; exact hxl)).trans hc1
      have g2 := (HST.out.below.cell (p := ⟨(x.add (k * 4)).block, (x.add (k * 4)).off + 2, none⟩) (by simp only [add_block]; exact hxl)).trans hc2
      have g3 := (HST.out.below.cell (p := ⟨(x.add (k * 4)).block, (x.add (k * 4)).off + 3, none⟩) (by simp only [add_block]; exact hxl)).trans hc3
      unfold bv at g3
      clear hc0 hc1 hc2 hc3
      have hkc := fun w => kind_calls w kd 8 hk0.1 hk0.2 (by omega) (by omega)
      have hkr := kindOf_range kd 8 (by omega)
      generalize kindOf kd 8 = m at *
      obtain ⟨mm, rfl⟩ := Int.eq_ofNat_of_zero_le hkr.1
      have hm8 : mm < 8 := by omega
      have HK := Lib.hid hkc
      clear hkc hkr
      have KB := Lib.hid (And.intro hk0 (And.intro hk1 hk2))
      clear hk0 hk1 hk2
      go_wp2_with fail
      refine (HK.out _).mono ?_
      rintro e w5 ⟨rfl, rfl⟩
      obtain ⟨ob, hob⟩ : ∃ ob, ob = wr.heap.size := ⟨_, rfl⟩
      obtain ⟨w4, hw4⟩ : ∃ w4, w4 = wr.alloc (.cells #[.int .i64 kd, .int .i64 at_, .int .i64 nn, .int .u8 (c.toNat : Int)] 39) := ⟨_, rfl⟩
      rw [← hob, ← hw4]
      have s4 := HST.out.same (w' := w4) (by rw [hw4]; exact (Only.refl _ _).alloc _)
      have hrow4 : w4.heap[ob]? = some (.cells (opCells kd at_ nn c) 39 (0, 0)) := by rw [hw4, hob, heap_alloc_new]; rfl
      have hwp : ob ≠ p := by have := lt_of_heap HST.out.disk.cells; omega
      have hwr : ob ≠ r := by obtain ⟨es, c, hm, _⟩ := HST.out.disk.map; have := lt_of_heap hm; omega
      clear hw4 hob HST g0 g1 g2 g3
      have S4 := Lib.hid s4
      have R4 := Lib.hid hrow4
      clear s4 hrow4
      by_cases hm : mm = 0 ∨ mm = 1 ∨ mm = 2 ∨ mm = 7
      · have HM := Lib.hid hm
        clear hm
        go_upto_if 47 with (fail)
        go_cut [47, 48] (fun v _ w' => v = .bool true ∧ w' = w4)
        case first =>
          rcases HM.out with h | h | h | h
          · have b0 : ((mm : Int) == 0) = true := by rw [h]; rfl
            clear h
            go_wp2_with fail
            go_meet
            case rel => exact ⟨by rw [b0], rfl⟩
          · have b0 : ((mm : Int) == 0) = false := by rw [h]; rfl
            have b1 : ((mm : Int) == 1) = true := by rw [h]; rfl
            clear h
            go_wp2_with fail
            go_meet
            case rel => exact ⟨rfl, rfl⟩
          · have b0 : ((mm : Int) == 0) = false := by rw [h]; rfl
            have b1 : ((mm : Int) == 1) = false := by rw [h]; rfl
            have b2 : ((mm : Int) == 2) = true := by rw [h]; rfl
            clear h
            go_wp2_with fail
            go_meet
            case rel => exact ⟨rfl, rfl⟩
          · have b0 : ((mm : Int) == 0) = false := by rw [h]; rfl
            have b1 : ((mm : Int) == 1) = false := by rw [h]; rfl
            have b2 : ((mm : Int) == 2) = false := by rw [h]; rfl
            have b3 : ((mm : Int) == 7) = true := by rw [h]; rfl
            clear h
            go_wp2_with fail
            go_meet
            case rel => exact ⟨rfl, rfl⟩
        case rest =>
          obtain ⟨rfl, rfl⟩ := hcut
          have gc0 := cellOf R4.out 0
          have gc1 := cellOf R4.out 1
          have gc2 := cellOf R4.out 2
          have gc3 := cellOf R4.out 3
          simp [opCells, bv] at gc0 gc1 gc2 gc3
          go_wp2_with fail
          refine (full_st S4.out c _ rfl).mono ?_
          rintro e w5 ⟨fb, rfl, fr, s5, o5, -⟩
          have hrow5 := o5.keeps R4.out (fun h => h)
          have S5 := Lib.hid s5
          have R5 := Lib.hid hrow5
          have FR := Lib.hid fr
          clear s5 hrow5 o5 fr gc0 gc1 gc2 gc3
          have gc0 := cellOf R5.out 0
          have gc1 := cellOf R5.out 1
          have gc2 := cellOf R5.out 2
          have gc3 := cellOf R5.out 3
          simp [opCells, bv] at gc0 gc1 gc2 gc3
          go_wp2_with fail
          refine (HK.out _).mono ?_
          rintro e w6 ⟨rfl, rfl⟩
          go_upto_if 58 with (fail)
          go_cut [9, 58] (fun v _ w' => ∃ a m c' bs, v = .slice a m c' ∧ m = bs.length ∧ SliceAt w' a bs ∧ DSt w.heap.size w w' p r D ∧ w'.heap[ob]? = some (.cells (opCells kd at_ nn c) 39 (0, 0)))
          case first =>
            by_cases h7 : mm = 7
            · have b7 : ((mm : Int) == 7) = true := by rw [h7]; rfl
              clear h7
              obtain ⟨hk0, hk1, hk2⟩ := KB.out
              have hn1 := kindOf_range nn 71 (by omega)
              have hnc := fun w => kind_calls w nn 71 hk2.1 hk2.2 (by omega) (by omega)
              generalize kindOf nn 71 = q at *
              obtain ⟨qq, rfl⟩ := Int.eq_ofNat_of_zero_le hn1.1
              have HN := Lib.hid hnc
              have hmk := fun w => run_make_bytes w qq (by omega)
              clear hnc hk0 hk1 hk2 hn1
              go_wp2_with fail
              refine (HN.out _).mono ?_
              rintro e w6 ⟨rfl, rfl⟩
              go_wp2_with fail
              go_meet
              case rel =>
                have o6 := (Only.refl (fun _ => False) w5).alloc (.cells (bvs (zerosN qq)) 5)
                exact ⟨_, _, _, zerosN qq, rfl, (zerosN_length _).symm, .of_row (.of_cells (heap_alloc_new _ _)), S5.out.same o6, o6.keeps R5.out (fun h => h)⟩
            · have b7 : ((mm : Int) == 7) = false := by rw [beq_eq_false_iff_ne]; omega
              clear h7
              go_wp2_with fail
              go_meet
              case rel => exact ⟨_, _, _, blockOf c, rfl, (blockOf_length c).symm, .of_row FR.out, S5.out, R5.out⟩
          case rest =>
            clear S5 R5 FR gc0 gc1 gc2 gc3
            obtain ⟨a9, m9, c9, bs, rfl, hm9, hsl, hs, hr⟩ := hcut
            have gc1 := cellOf hr 1
            simp [opCells] at gc1
            have SL := Lib.hid hsl
            have HS := Lib.hid hs
            have HR := Lib.hid hr
            have HM9 := Lib.hid hm9
            clear hsl hs hr hm9
            go_wp2_with fail
            refine (read_any HS.out at_).mono ?_
            rintro e w6 ⟨a1, n1, c1, rfl, hn1, hsl1, hs1, ho1⟩
            have hr1 := ho1.keeps HR.out (fun h => h)
            have hsl9 := SL.out.grow ho1
            have gc1' := cellOf hr1 1
            simp [opCells] at gc1'
            have N1 := Lib.hid hn1
            clear hn1
            go_wp2_with fail
            refine (write_st hs1 at_ a9 bs m9 c9 HM9.out.symm hsl9 (HREL.out.fine (by omega))).mono ?_
            rintro e w7 ⟨rfl, hs2, ho2⟩
            have hr2 := ho2.keeps hr1 (fun h => by rcases h with h | h; exact hwp h; exact hwr h)
            have hsl1' := hsl1.two hs1 ho2
            have hsl9' := hsl9.two hs1 ho2
            have gc1'' := cellOf hr2 1
            simp [opCells] at gc1''
            have HYES := Lib.hid (HREL.out.write_yes at_ bs)
            have HNO := Lib.hid (HREL.out.write_no at_ bs)
            have DYES := Lib.hid (DK.write_yes (D := D) (i := at_) (l := bs))
            have DNO := Lib.hid (DK.write_no (D := D) (i := at_) (l := bs))
            generalize D.write at_ bs = DD at *
            obtain ⟨D', g⟩ := DD
            simp only at hs2 HYES HNO DYES DNO ⊢
            have A1 := Lib.hid (And.intro hsl1' (And.intro hsl9' (And.intro hs2 hr2)))
            clear hsl1 hsl9 hsl1' hsl9' ho1 ho2 hr1 hr2 hs1 SL HS HR
            by_cases hg : g = 0
            · subst hg
              obtain ⟨f1, f2, f3⟩ := DYES.out rfl
              have hA := HYES.out rfl
              have hsh : D'.shows at_ = bs := by unfold DK.shows; rw [if_pos f2, f3]
              have F1 := Lib.hid f1
              have F2 := Lib.hid f2
              have HA := Lib.hid hA
              have HSH := Lib.hid hsh
              clear f1 f2 f3 hA hsh HYES HNO DYES DNO
              rw [F1.out]
              go_wp2_with fail
              refine (read_any A1.out.2.2.1 at_).mono ?_
              rw [F2.out, HSH.out]
              rintro e w8 ⟨a2, n2, c2, rfl, hn2, hsl2, hs3, ho3⟩
              have hcv2 := conv_slice bs a2 n2 c2 hn2 w8 hsl2
              have hcv9 := conv_slice bs a9 m9 c9 HM9.out w8 (A1.out.2.1.grow ho3)
              have HW := Lib.hid HA.out.writes
              clear hn2 hsl2 ho3
              go_wp2_with fail
              refine (writes_st hs3).mono ?_
              rw [HW.out]
              rintro e w9 ⟨rfl, rfl⟩
              go_wp2_with fail
              go_roundw
              case rel => exact ⟨k + 1, n + 1, D', by omega, by omega, by omega, by go_num, by go_num, HA.out, hs3⟩
              case measure => simp [intOf]; omega
            · have g1 : (g == 0) = false := by rw [beq_eq_false_iff_ne]; exact hg
              have g2 : (g != 0) = true := by rw [bne_iff_ne]; exact hg
              have HA := Lib.hid (HNO.out hg)
              have DN := Lib.hid (DNO.out hg)
              clear hg HYES HNO DYES DNO
              have HSH2 := Lib.hid (show D.code at_ = 0 → D'.code at_ = 0 → D'.shows at_ = D.shows at_ from fun h1 h2 => by unfold DK.shows; rw [if_pos h1, if_pos h2, DN.out h2])
              generalize hff : D.code at_ = ff at *
              have HW := Lib.hid HA.out.writes
              go_wp2_with fail
              refine (read_any A1.out.2.2.1 at_).mono ?_
              rintro e w8 ⟨a2, n2, c2, rfl, hn2, hsl2, hs3, ho3⟩
              generalize hhh : D'.code at_ = hh at *
              have HFF := Lib.hid hff
              have HHH := Lib.hid hhh
              clear hff hhh
              by_cases hf : ff = 0
              · subst hf
                by_cases hh0 : hh = 0
                · subst hh0
                  have hsame := HSH2.out rfl rfl
                  rw [hsame] at hn2 hsl2
                  have hcv2 := conv_slice _ a2 n2 c2 hn2 w8 hsl2
                  have hcv1 := conv_slice _ a1 n1 c1 N1.out w8 (A1.out.1.grow ho3)
                  clear hn2 hsl2 hsame ho3
                  generalize D.shows at_ = ss at *
                  go_wp2_with fail
                  refine (writes_st hs3).mono ?_
                  rw [HW.out]
                  rintro e w9 ⟨rfl, rfl⟩
                  go_wp2_with fail
                  go_roundw
                  case rel => exact ⟨k + 1, n, D', by omega, by omega, by omega, by go_num, rfl, HA.out, hs3⟩
                  case measure => simp [intOf]; omega
                · have h3 : (hh == 0) = false := by rw [beq_eq_false_iff_ne]; exact hh0
                  clear hn2 hsl2 ho3 hh0
                  go_wp2_with fail
                  refine (writes_st hs3).mono ?_
                  rw [HW.out]
                  rintro e w9 ⟨rfl, rfl⟩
                  go_wp2_with fail
                  go_roundw
                  case rel => exact ⟨k + 1, n, D', by omega, by omega, by omega, by go_num, rfl, HA.out, hs3⟩
                  case measure => simp [intOf]; omega
              · have h3 : (ff == 0) = false := by rw [beq_eq_false_iff_ne]; exact hf
                clear hn2 hsl2 ho3 hf
                go_wp2_with fail
                refine (writes_st hs3).mono ?_
                rw [HW.out]
                rintro e w9 ⟨rfl, rfl⟩
                go_wp2_with fail
                go_roundw
                case rel => exact ⟨k + 1, n, D', by omega, by omega, by omega, by go_num, rfl, HA.out, hs3⟩
                case measure => simp [intOf]; omega
      · have hm' : mm = 3 ∨ mm = 6 ∨ mm = 4 ∨ mm = 5 := by omega
        clear hm hm8
        have hwrites : D.writes = n := HREL.out.writes
        rcases hm' with rfl | rfl | rfl | rfl
        · go_wp2_with fail
          refine (writes_st S4.out).mono ?_
          rw [hwrites]
          rintro e w20 ⟨rfl, rfl⟩
          go_wp2_with fail
          go_roundw
          case rel => exact ⟨k + 1, n, D, by omega, by omega, by omega, by go_num, rfl, HREL.out, S4.out⟩
          case measure => simp [intOf]; omega
        · go_wp2_with fail
          refine (writes_st S4.out).mono ?_
          rw [hwrites]
          rintro e w20 ⟨rfl, rfl⟩
          go_wp2_with fail
          go_roundw
          case rel => exact ⟨k + 1, n, D, by omega, by omega, by omega, by go_num, rfl, HREL.out, S4.out⟩
          case measure => simp [intOf]; omega
        · have g2 := cellOf R4.out 2
          simp [opCells] at g2
          go_wp2_with fail
          refine (fuse_st S4.out nn).mono ?_
          rintro e w19 ⟨rfl, s5, -⟩
          have hwrites : (D.fused nn).writes = n := (HREL.out.fuse nn KB.out.2.2).writes
          go_wp2_with fail
          refine (writes_st s5).mono ?_
          rw [hwrites]
          rintro e w20 ⟨rfl, rfl⟩
          go_wp2_with fail
          go_roundw
          case rel => exact ⟨k + 1, n, D.fused nn, by omega, by omega, by omega, by go_num, rfl, HREL.out.fuse nn KB.out.2.2, s5⟩
          case measure => simp [intOf]; omega
        · go_wp2_with fail
          refine (boot_st S4.out).mono ?_
          rintro e w19 ⟨rfl, s5, -⟩
          have hwrites : D.booted.writes = n := HREL.out.boot.writes
          go_wp2_with fail
          refine (writes_st s5).mono ?_
          rw [hwrites]
          rintro e w20 ⟨rfl, rfl⟩
          go_wp2_with fail
          go_roundw
          case rel => exact ⟨k + 1, n, D.booted, by omega, by omega, by omega, by go_num, rfl, HREL.out.boot, s5⟩
          case measure => simp [intOf]; omega
    · have hstop : len0 ≤ k ∨ (k < len0 ∧ 100 ≤ k) := by omega
      clear hgo
      rcases hstop with hstop | ⟨hstop, hstop2⟩
      · go_wp2_with fail
        go_ret
        exact ⟨rfl, HST.out.below⟩
      · go_wp2_with fail
        go_ret
        exact ⟨rfl, HST.out.below⟩

/-! ### THE ROW's STEP -/
set_option maxRecDepth 100000 in
theorem lifted (os : Os) (started : os.Started) (H : Type) (enc : TypeId × Value → H) :
    ReturnsInHanded {} Try.checked os 5 .any (Rows.diskCountsSpec.pre6 enc Try.prog Try.f5 Rows.diskCountsRow.domain false) (Rows.diskCountsSpec.post enc Try.prog Try.f5 false true false false) := by
  refine returnsInHanded_of_change (C := Try.checked) own started (by kernel_rfl) Try.func5
    (ChangeSpec.witness6 (enc := enc) (C := Try.checked) false ⟨#[], #[.slice none 0 0], []⟩ 8 (by kernel_rfl) (by kernel_rfl) (by kernel_rfl) (by kernel_rfl)) ?_
  intro W base args ds gs before hval0 hW hcnd _
  have hval : ∀ (j : Nat) t v, Try.f5.params[j]? = some t → args[j]? = some v → Value.okWide Try.prog W .any base t v := hval0
  have hW' := hW
  obtain ⟨p, q, hA0, hV, rfl, hfz, hnd⟩ := hW
  have hA : DataW.TrodAll enc Try.prog W 0 (fun _ => true) true Try.f5.params.toList args.toList ds p := hA0
  rw [Try.params5] at hA hval
  obtain ⟨v0, vs0, d0, ds0, p0, q0, hargs, rfl, rfl, h0, r0⟩ := trodAll_cons hA
  obtain ⟨rfl, rfl, rfl⟩ := trodAll_nil r0
  obtain rfl : args = #[v0] := by cases args; simp_all
  obtain ⟨rfl, rfl⟩ := trodVars_none hV
  obtain ⟨a0, len0, cap0, rfl⟩ := okWide_slice Try.underlying36 (hval 0 36 v0 rfl rfl)
  have k0 := h0
  have lt0 : ∀ x ∈ p0, x.block < W.heap.size := by obtain ⟨m, hm⟩ := k0; exact DataW.trod_lt m _ _ _ hm
  have w0 : OpsAt W a0 len0 := by
    obtain ⟨fuel, hf⟩ := h0
    exact ops_open hf
  clear hA0 hval0
  refine (walk a0 len0 cap0 W w0).mono fun e W' ⟨he, bel⟩ => ?_
  subst he
  exact ⟨_, rfl, _, _, _, [], _, [], hW', trodAll_mk1 (shut_bool Try.underlying4 _), (trodAll_cons_mk (Below.trod laidOut (by kernel_rfl) (of_decide_eq_true (by kernel_rfl)) k0 bel lt0) trodAll_mk0), rfl, bel.frame _, fun h => by cases h⟩

theorem over : Rows.diskCountsRow.holds Try.pinned (OpenSpec.ofChange Rows.diskCountsSpec) :=
  OpenClaim.holds_of_wide 5 Try.f5 rfl rfl rfl rfl rfl rfl rfl ⟨rfl, rfl, rfl, rfl, rfl⟩ rfl rfl rfl rfl rfl (by kernel_rfl) Try.func5 (by kernel_rfl)
    (of_decide_eq_true (by kernel_rfl)) (by unfold Func.isWrapper; first | (rw [if_pos (by decide +kernel)]; kernel_rfl) | (rw [if_neg (by decide +kernel)]; exact ⟨rfl, rfl⟩))
    (fun os started H enc _ => lifted os started H enc)

theorem proved : Rows.DiskCountsSaid := over
#print axioms proved
end Go.Proofs.Ytlieijnhlfedmaa.diskCounts
