/- JournalCrashes: each group is done wholly or not at all, wherever the power goes off, and as often as it does, also while it is opened; and nothing else is written: any place, any calls (no condition). -/
import Derived.Test.YtpmlmjbhgonegaaRows
import Derived.Test.YtpmlmjbhgonegaaJCrash
import Derived.ShutString
import Derived.ChangeOld
import Derived.Deep.CutBlock
namespace Go.Proofs.Ytpmlmjbhgonegaa.journalCrashes
open Go.ChangeShapes Go.WideShapes Go.ChangeAt Go.RowKit
open Go.ChangeMaps (open_string shut_string)
set_option linter.unusedVariables false

theorem own : ownKnob Try.prog.godebug = none := by kernel_rfl
theorem laidOut : laidOutB Try.prog = true := by kernel_rfl
theorem only_below {w w' : World} (o : Only (fun _ => False) w w') : Below w.heap.size w w' := o.below (Below.refl _ _) (Nat.le_refl _) (fun _ e => e.elim)
def Hand (B : Nat) (w0 : World) (v : Value) (sm : Bool) (hl : List (Int × List UInt8)) : Prop := sm = true → ∃ x c, v = .slice x hl.length c ∧ PutsAt (fun i => B ≤ i) w0 x hl
def OpAt (w : World) (ob : Nat) (kd nn : Int) (a : Option Addr) (n c : Nat) : Prop := w.heap[ob]? = some (.cells #[.int .i64 kd, .int .i64 nn, .slice a n c] 58 (0, 0))

set_option maxRecDepth 100000 in
set_option maxHeartbeats 8000000 in
theorem walk (a0 : Int) (a1 : Option Addr) (len1 cap1 : Nat) (w : World) (w0 : (Lit.int .i64 a0).wf = true) (w1 : CrashOps w a1 len1) :
    Calls Try.prog 7 #[.int .i64 a0, .slice a1 len1 cap1] w fun e w' => e = .returned (.bool true) ∧ Below w.heap.size w w' := by
  have hi0 := wf64 w0
  obtain ⟨hl1, hc1⟩ := w1
  have C1 := Lib.hid hc1
  have SH := Lib.hid (shown_calls w)
  have har := amongOf_range a0 61 (by decide)
  have hac := fun w => among_calls w a0 61 hi0.1 hi0.2 (by decide) (by decide)
  obtain ⟨at_, hat⟩ : ∃ q, q = amongOf a0 61 := ⟨_, rfl⟩
  rw [← hat] at har
  rw [← hat] at hac
  obtain ⟨ha, ha2⟩ := har
  have HA := Lib.hid hac
  clear hc1 hac hat w0 hi0
  go_enter Try.func7, Try.ntmps7
  go_wp2_with fail
  refine SH.out.mono ?_
  rintro e w1 ⟨rfl, o1⟩
  have HB := Lib.hid (only_below o1)
  clear o1
  go_wp2_with fail
  refine (HA.out w1).mono ?_
  rintro e w2 ⟨rfl, rfl⟩
  go_wp2_with fail
  refine (ground_calls (B := w.heap.size) (w0 := w) at_ ha (by omega) HB.out.size HB.out).mono ?_
  rintro e w2 ⟨p, r, jb, D, rfl, j2, o2, f2, cl2, hp, hr, hj⟩
  have J := Lib.hid j2
  have F := Lib.hid f2
  have CL := Lib.hid cl2
  clear j2 o2 f2 cl2 hp hr hj
  go_wp2_with fail
  refine (rows_has J.out.st at_ 259 F.out.len F.out.off ha (by omega) (by decide) (by decide)).mono ?_
  rintro e w3 ⟨hv, rfl, hh, -, o3⟩
  have hcr : Cr w.heap.size w w3 p r jb D at_ 0 2000 D.get hv := ⟨J.out.same o3, F.out.len, F.out.under.mono (by decide), hh.mono J.out.st.hB⟩
  have hcr := hcr.grow ((Only.refl (fun _ => False) w3).alloc (.cells #[] 44))
  have CR0 := Lib.hid hcr
  have MD0 := Lib.hid (show Mode D at_ 0 0 D.get false false [] from .inl ⟨F.out.off, ⟨CL.out.head, fun _ _ => rfl⟩, rfl, rfl, rfl⟩)
  clear hcr hh o3
  go_wp2_with fail
  clear J F CL
  generalize w3.alloc (.cells #[] 44) = w4 at *
  go_loopw [8, 9, 11, 12, 13, 14, 15] (fun v8 v9 v11 v12 v13 v14 v15 wr => ∃ k : Nat, v15 = .int .i64 k ∧ k ≤ len1 ∧ k ≤ 60 ∧ ∃ (jb gj n : Nat) (D : DK) (E : Img) (hv : Value) (sm fr : Bool) (hl : List (Int × List UInt8)), v8 = .pointer (some ⟨jb, 0, none⟩) ∧ v9 = hv ∧ v11 = .int .i64 n ∧ v13 = .bool sm ∧ v14 = .bool fr ∧ Cr w.heap.size w wr p r jb D at_ gj (2000 + 1000 * k) E hv ∧ Mode D at_ gj n E sm fr hl ∧ n ≤ k ∧ Hand w.heap.size w v12 sm hl) (fun _ _ _ _ _ _ v15 _ => 60 - (intOf v15).toNat)
  case atStart => exact ⟨0, rfl, by omega, by omega, jb, 0, 0, D, D.get, hv, false, false, [], rfl, rfl, rfl, rfl, rfl, CR0.out, MD0.out, by omega, fun e => by cases e⟩
  case round =>
    clear CR0 MD0
    obtain ⟨k, rfl, hk1, hk2, jb, gj, n, D, E, hv, sm, fr, hl, rfl, rfl, rfl, rfl, rfl, hcr, hmd, hnk, hhd⟩ := hrel
    have CR := Lib.hid hcr
    have MD := Lib.hid hmd
    have HH := Lib.hid hhd
    clear hcr hmd hhd
    by_cases hgo : k < len1 ∧ k < 60
    · obtain ⟨hlt, hlt60⟩ := hgo
      have hlt60i : decide ((k : Int) < 60) = true := decide_eq_true (by omega)
      obtain ⟨x, kd, nn, ap, np, cp, rfl, hxl, hc0, hc1, hc2, hk, hn, hpa⟩ := C1.out k hlt
      have hbel := CR.out.j.st.below
      have g0 := (hbel.cell (p := x.add (k * 3)) (by simp only [add_block]; exact hxl)).trans hc0
      have g1 := (hbel.cell (p := ⟨(x.add (k * 3)).block, (x.add (k * 3)).off + 1, none⟩) (by simp only [add_block]; exact hxl)).trans hc1
      have g2 := (hbel.cell (p := ⟨(x.add (k * 3)).block, (x.add (k * 3)).off + 2, none⟩) (by simp only [add_block]; exact hxl)).trans hc2
      obtain ⟨hnmax, pl, hpl, hPl⟩ := hpa
      have PL := Lib.hid hPl
      have PLN := Lib.hid hpl
      have NMAX := Lib.hid hnmax
      have HN := Lib.hid hn
      clear hbel hc0 hc1 hc2 hPl hpl hnmax hn
      go_upto_region 17 with (fail)
      have ho5 : OpAt (wr.alloc (.cells #[.int .i64 kd, .int .i64 nn, .slice ap np cp] 58)) wr.heap.size kd nn ap np cp := heap_alloc_new _ _
      have hc5 := CR.out.grow ((Only.refl (fun _ => False) wr).alloc (.cells #[.int .i64 kd, .int .i64 nn, .slice ap np cp] 58))
      have OB := Lib.hid ho5
      have CR5 := Lib.hid hc5
      clear g0 g1 g2 ho5 hc5 CR
      generalize wr.alloc (.cells #[.int .i64 kd, .int .i64 nn, .slice ap np cp] 58) = w5 at *
      generalize wr.heap.size = ob at *
      have hkc := fun w => among_calls w kd 8 hk.1 hk.2 (by decide) (by decide)
      have hkr := amongOf_range kd 8 (by decide)
      generalize amongOf kd 8 = mI at *
      obtain ⟨m, rfl⟩ := Int.eq_ofNat_of_zero_le hkr.1
      have hm8 : m < 8 := by omega
      have HK := Lib.hid hkc
      clear hkc hkr hk
      obtain ⟨dof, hdof⟩ : ∃ q, q = D.off := ⟨_, rfl⟩
      have DOF := Lib.hid hdof
      have HON := Lib.hid (on_st CR5.out.j.st)
      rw [← hdof] at HON
      clear hdof
      have ot0 : w5.cell? ⟨ob, 0, none⟩ = some (.int .i64 kd) := (cellOf OB.out 0).trans rfl
      have ot1 : w5.cell? ⟨ob, 1, none⟩ = some (.int .i64 nn) := (cellOf OB.out 1).trans rfl
      have ot2 : w5.cell? ⟨ob, 2, none⟩ = some (.slice ap np cp) := (cellOf OB.out 2).trans rfl
      cases dof with
      | true =>
        by_cases hm6 : m = 6
        · subst hm6
          go_wp2_with fail
          refine HON.out.mono ?_
          rintro e w6 ⟨rfl, rfl⟩
          go_wp2_with fail
          refine (HK.out _).mono ?_
          rintro e w6 ⟨rfl, rfl⟩
          go_wp2_with fail
          refine (HK.out _).mono ?_
          rintro e w6 ⟨rfl, rfl⟩
          go_upto_block 2 with fail
          go_cut [8, 9, 11, 12, 13, 14] (fun v8 v9 v11 v12 v13 v14 wc => ∃ (jb gj n : Nat) (D : DK) (E : Img) (hv : Value) (sm fr : Bool) (hl : List (Int × List UInt8)), v8 = .pointer (some ⟨jb, 0, none⟩) ∧ v9 = hv ∧ v11 = .int .i64 n ∧ v13 = .bool sm ∧ v14 = .bool fr ∧ Cr w.heap.size w wc p r jb D at_ gj (2000 + 1000 * (k + 1)) E hv ∧ Mode D at_ gj n E sm fr hl ∧ n ≤ k + 1 ∧ Hand w.heap.size w v12 sm hl)
          case first =>
            as_aux_lemma =>
              obtain ⟨g, F, hsd, hwh⟩ := MD.out.sound
              have SD := Lib.hid hsd
              have WH := Lib.hid hwh
              have GB := Lib.hid (show g ≤ k + 1 from by rcases hwh with ⟨h, _⟩ | ⟨_, _, h, _⟩ <;> omega)
              have HA60 : Hid (at_ ≤ 60) := Lib.hid (by omega)
              have HMO : Hid ((2000 : Int) + 1000 * (k : Int) + 257 + 257 ≤ 2000 + 1000 * ((k : Int) + 1)) := Lib.hid (by omega)
              have HG : Hid (g < 1000000) := Lib.hid (by have := GB.out; omega)
              clear hsd hwh
              go_wp2_with fail
              refine CR5.out.boot.mono ?_
              rintro e w6 ⟨rfl, cr6, o6⟩
              have OB6 := Lib.hid (show OpAt w6 ob kd nn ap np cp from CR5.out.ob OB.out o6)
              have CR6 := Lib.hid cr6
              clear cr6 o6 ot0 ot1 ot2
              have ot0 : w6.cell? ⟨ob, 0, none⟩ = some (.int .i64 kd) := (cellOf OB6.out 0).trans rfl
              have ot1 : w6.cell? ⟨ob, 1, none⟩ = some (.int .i64 nn) := (cellOf OB6.out 1).trans rfl
              have ot2 : w6.cell? ⟨ob, 2, none⟩ = some (.slice ap np cp) := (cellOf OB6.out 2).trans rfl
              go_wp2_with fail
              refine (CR6.out.fuse nn HN.out).mono ?_
              rintro e w7 ⟨rfl, cr7, o7⟩
              have CR7 := Lib.hid cr7
              clear cr7 o7 ot0 ot1 ot2
              go_wp2_with fail
              refine (CR7.out.open (fused_on nn rfl) ha (by omega) (by omega) HG.out (by rw [fused_get, booted_get]; exact SD.out)).mono ?_
              rintro e w8 ⟨v8, c8, D8, rfl, cr8, -, -, hs8, -⟩
              have CR8 := Lib.hid cr8
              have HS8 := Lib.hid hs8
              clear cr8 hs8
              go_wp2_with fail
              refine CR8.out.boot.mono ?_
              rintro e w9 ⟨rfl, cr9, -⟩
              have CR9 := Lib.hid cr9
              clear cr9
              go_wp2_with fail
              refine (CR9.out.open rfl ha (by omega) (by omega) HG.out (by rw [booted_get]; exact HS8.out)).mono ?_
              rintro e w10 ⟨v10, c10, D10, rfl, cr10, nx10, hz10, -, -⟩
              have hc10 : c10 = 0 := by
                by_cases h : c10 = 0
                · exact h
                · exact absurd rfl (nx10.off h).2.2.2
              subst hc10
              obtain ⟨hcl10, j2, rfl, hj10⟩ := hz10 rfl
              have CR10 := Lib.hid cr10
              have NX10 := Lib.hid nx10
              have CL10 := Lib.hid hcl10
              have J10 := Lib.hid hj10
              clear cr10 nx10 hcl10 hj10 hz10
              rcases WH.out with ⟨rfl, rfl⟩ | ⟨rfl, hgr, rfl, rfl⟩
              · clear WH
                have hne : ¬ (g : Int) = (g : Int) + 1 := by omega
                have hg0f := Lib.hid (show g ≠ 0 → ¬ (g : Int) = 0 from fun h => by omega)
                have hwn : IntKind.i64.wrap ((g : Int) + 1) = (g : Int) + 1 := IntWalk.i64_in _ (by have := GB.out; omega)
                cases fr with
                | true =>
                  by_cases hg0 : g = 0
                  · subst hg0
                    as_aux_lemma =>
                    go_wp2_with fail
                    refine (groups_calls _ p j2 at_ _ J10.out.cells).mono ?_
                    rintro e w11 ⟨rfl, rfl⟩
                    go_wp2_with fail
                    go_meet
                    case rel => exact ⟨j2, 0, 0, D10, F, _, false, false, hl, rfl, rfl, rfl, rfl, rfl, (CR10.out.other J10.out).mono HMO.out, .inl ⟨(NX10.out.on rfl).1, CL10.out, rfl, rfl, rfl⟩, GB.out, fun e => by cases e⟩
                  · have hg0i := hg0f.out hg0
                    cases sm with
                    | true =>
                      as_aux_lemma =>
                      go_wp2_with fail
                      refine (groups_calls _ p j2 at_ _ J10.out.cells).mono ?_
                      rintro e w11 ⟨rfl, rfl⟩
                      go_wp2_with fail
                      refine (groups_calls _ p j2 at_ _ J10.out.cells).mono ?_
                      rintro e w11 ⟨rfl, rfl⟩
                      go_wp2_with fail
                      go_meet
                      case rel => exact ⟨j2, g, g, D10, F, _, false, false, hl, rfl, rfl, rfl, rfl, rfl, (CR10.out.other J10.out).mono HMO.out, .inl ⟨(NX10.out.on rfl).1, CL10.out, rfl, rfl, rfl⟩, GB.out, fun e => by cases e⟩
                    | false =>
                      as_aux_lemma =>
                      go_wp2_with fail
                      refine (groups_calls _ p j2 at_ _ J10.out.cells).mono ?_
                      rintro e w11 ⟨rfl, rfl⟩
                      go_wp2_with fail
                      go_meet
                      case rel => exact ⟨j2, g, g, D10, F, _, false, false, hl, rfl, rfl, rfl, rfl, rfl, (CR10.out.other J10.out).mono HMO.out, .inl ⟨(NX10.out.on rfl).1, CL10.out, rfl, rfl, rfl⟩, GB.out, fun e => by cases e⟩
                | false =>
                  cases sm with
                  | true =>
                    as_aux_lemma =>
                    go_wp2_with fail
                    refine (groups_calls _ p j2 at_ _ J10.out.cells).mono ?_
                    rintro e w11 ⟨rfl, rfl⟩
                    go_wp2_with fail
                    go_meet
                    case rel => exact ⟨j2, g, g, D10, F, _, false, false, hl, rfl, rfl, rfl, rfl, rfl, (CR10.out.other J10.out).mono HMO.out, .inl ⟨(NX10.out.on rfl).1, CL10.out, rfl, rfl, rfl⟩, GB.out, fun e => by cases e⟩
                  | false =>
                    as_aux_lemma =>
                    go_wp2_with fail
                    go_meet
                    case rel => exact ⟨j2, g, g, D10, F, _, false, false, hl, rfl, rfl, rfl, rfl, rfl, (CR10.out.other J10.out).mono HMO.out, .inl ⟨(NX10.out.on rfl).1, CL10.out, rfl, rfl, rfl⟩, GB.out, fun e => by cases e⟩
              · have hg1 : ¬ ((n + 1 : Nat) : Int) = 0 := by omega
                have hwn : IntKind.i64.wrap ((n : Int) + 1) = ((n + 1 : Nat) : Int) := by rw [IntWalk.i64_in _ (by omega)]; omega
                have hg2 : decide (((n + 1 : Nat) : Int) = 0) = false := decide_eq_false hg1
                clear WH
                cases fr with
                | true =>
                  as_aux_lemma =>
                  go_wp2_with fail
                  refine (groups_calls _ p j2 at_ _ J10.out.cells).mono ?_
                  rintro e w11 ⟨rfl, rfl⟩
                  go_wp2_with fail
                  refine (groups_calls _ p j2 at_ _ J10.out.cells).mono ?_
                  rintro e w11 ⟨rfl, rfl⟩
                  go_wp2_with fail
                  obtain ⟨xh, ch, rfl, hph⟩ := HH.out rfl
                  refine ((CR10.out.other J10.out).with ha HA60.out xh hl hl.length ch rfl hgr hph).mono ?_
                  rintro e w12 ⟨v12, rfl, hc12, o12⟩
                  have CR12 := Lib.hid hc12
                  clear hc12 o12 hph
                  go_wp2_with fail
                  go_meet
                  case rel => exact ⟨j2, n + 1, n + 1, D10, applied hl E, _, false, false, hl, rfl, rfl, rfl, rfl, rfl, CR12.out.mono HMO.out, .inl ⟨(NX10.out.on rfl).1, CL10.out, rfl, rfl, rfl⟩, GB.out, fun e => by cases e⟩
                | false =>
                  as_aux_lemma =>
                  go_wp2_with fail
                  refine (groups_calls _ p j2 at_ _ J10.out.cells).mono ?_
                  rintro e w11 ⟨rfl, rfl⟩
                  go_wp2_with fail
                  obtain ⟨xh, ch, rfl, hph⟩ := HH.out rfl
                  refine ((CR10.out.other J10.out).with ha HA60.out xh hl hl.length ch rfl hgr hph).mono ?_
                  rintro e w12 ⟨v12, rfl, hc12, o12⟩
                  have CR12 := Lib.hid hc12
                  clear hc12 o12 hph
                  go_wp2_with fail
                  go_meet
                  case rel => exact ⟨j2, n + 1, n + 1, D10, applied hl E, _, false, false, hl, rfl, rfl, rfl, rfl, rfl, CR12.out.mono HMO.out, .inl ⟨(NX10.out.on rfl).1, CL10.out, rfl, rfl, rfl⟩, GB.out, fun e => by cases e⟩
          case rest =>
            as_aux_lemma =>
            obtain ⟨jb, gj, n, D, E, hv, sm, fr, hl, rfl, rfl, rfl, rfl, rfl, hcr, hmd, hnk, hhd⟩ := hcut
            have CRC := Lib.hid hcr
            have MDC := Lib.hid hmd
            have HHC := Lib.hid hhd
            clear hcr hmd hhd
            obtain ⟨dof, hdof⟩ : ∃ q, q = D.off := ⟨_, rfl⟩
            have DOFC := Lib.hid hdof
            have HONC := Lib.hid (on_st CRC.out.j.st)
            rw [← hdof] at HONC
            clear hdof
            go_wp2_with fail
            refine HONC.out.mono ?_
            rintro e w6 ⟨rfl, rfl⟩
            cases dof with
            | true =>
              go_wp2_with fail
              go_roundw
              case rel => exact ⟨k + 1, by go_num, by omega, by omega, jb, gj, n, D, E, _, sm, fr, hl, rfl, rfl, rfl, rfl, rfl, CRC.out, MDC.out, hnk, HHC.out⟩
              case measure => simp [intOf]; omega
            | false =>
              have hmode : Clean at_ n D.get E ∧ gj = n := by
                rcases MDC.out with ⟨_, h1, h2, _⟩ | ⟨h, _⟩
                · exact ⟨h1, h2⟩
                · rw [← DOFC.out] at h; cases h
              obtain ⟨hcl, rfl⟩ := hmode
              have hrt := rowsTo_same (at_ := at_) hcl.out 259
              have HRT := Lib.hid hrt
              clear hcl hrt
              go_wp2_with fail
              refine (CRC.out.rows DOFC.out.symm ha (by omega)).mono ?_
              rintro e w7 ⟨v, rfl, hh7, hc7, o7⟩
              rw [HRT.out] at hh7
              have H7 := Lib.hid (hh7.mono CRC.out.j.st.hB).rows
              have CR7 := Lib.hid hc7
              clear hh7 hc7 o7
              go_wp2_with fail
              refine (same_calls w7 w.heap.size _ _ _ _ H7.out CR7.out.has.rows).mono ?_
              rintro e w8 ⟨rfl, o8⟩
              have CR8 := Lib.hid (CR7.out.grow o8)
              have hdd : decide (rowsTo at_ E 259 = rowsTo at_ E 259) = true := decide_eq_true rfl
              rw [hdd]
              clear o8 hdd
              go_wp2_with fail
              refine (groups_calls w8 p jb at_ _ CR8.out.j.cells).mono ?_
              rintro e w9 ⟨rfl, rfl⟩
              go_wp2_with fail
              go_roundw
              case rel => exact ⟨k + 1, by go_num, by omega, by omega, jb, gj, gj, D, E, _, sm, fr, hl, rfl, rfl, rfl, rfl, rfl, CR8.out, MDC.out, hnk, HHC.out⟩
              case measure => simp [intOf]; omega
        · have hm6i : ¬ (m : Int) = 6 := by omega
          go_wp2_with fail
          refine HON.out.mono ?_
          rintro e w6 ⟨rfl, rfl⟩
          go_wp2_with fail
          refine (HK.out _).mono ?_
          rintro e w6 ⟨rfl, rfl⟩
          go_wp2_with fail
          go_roundw
          case rel => exact ⟨k + 1, by go_num, by omega, by omega, jb, gj, n, D, E, _, sm, fr, hl, rfl, rfl, rfl, rfl, rfl, CR5.out.mono (by omega), MD.out, by omega, HH.out⟩
          case measure => simp [intOf]; omega
      | false =>
        have hmode : Clean at_ n D.get E ∧ gj = n ∧ sm = false ∧ fr = false := by
          rcases MD.out with ⟨_, h⟩ | ⟨h, _⟩
          · exact h
          · rw [← DOF.out] at h; cases h
        obtain ⟨hcl, rfl, rfl, rfl⟩ := hmode
        have CL := Lib.hid hcl
        clear hcl
        go_wp2_with fail
        refine HON.out.mono ?_
        rintro e w6 ⟨rfl, rfl⟩
        go_wp2_with fail
        refine (HK.out _).mono ?_
        rintro e w6 ⟨rfl, rfl⟩
        go_upto_block 2 with fail
        go_cut [8, 9, 11, 12, 13, 14] (fun v8 v9 v11 v12 v13 v14 wc => ∃ (jb gj n : Nat) (D : DK) (E : Img) (hv : Value) (sm fr : Bool) (hl : List (Int × List UInt8)), v8 = .pointer (some ⟨jb, 0, none⟩) ∧ v9 = hv ∧ v11 = .int .i64 n ∧ v13 = .bool sm ∧ v14 = .bool fr ∧ Cr w.heap.size w wc p r jb D at_ gj (2000 + 1000 * (k + 1)) E hv ∧ Mode D at_ gj n E sm fr hl ∧ n ≤ k + 1 ∧ Hand w.heap.size w v12 sm hl)
        case first =>
          rcases (show m = 0 ∨ m = 1 ∨ m = 2 ∨ m = 3 ∨ m = 4 ∨ m = 5 ∨ m = 6 ∨ m = 7 by omega) with rfl | rfl | rfl | rfl | rfl | rfl | rfl | rfl
          · as_aux_lemma =>
              by_cases hmay : jMay D at_ pl = true
              · have hgr := group_of_may CR5.out.len hmay
                have GR := Lib.hid hgr
                have hcm := CR5.out.commit DOF.out.symm ha (by omega) (by omega) (by omega) CL.out ap pl np cp PLN.out hgr PL.out
                have HCM := Lib.hid hcm
                clear hcm hmay hgr
                go_wp2_with fail
                refine HCM.out.mono ?_
                rintro e w6 ⟨c, D6, g6, rfl, cr6, nx6, hz6, hs6, o6⟩
                have OB6 := Lib.hid (show OpAt w6 ob kd nn ap np cp from CR5.out.ob OB.out o6)
                have CR6 := Lib.hid cr6
                have MAY6 := Lib.hid (may_of_group cr6.len GR.out)
                clear ot0 ot1 ot2 o6 cr6
                have hcc : c = 0 ∨ c = 2 := by
                  by_cases h : c = 0
                  · exact .inl h
                  · exact .inr (nx6.off h).1
                have NX6 := Lib.hid nx6
                have HZ6 := Lib.hid hz6
                have HS6 := Lib.hid hs6
                clear nx6 hz6 hs6
                rcases hcc with rfl | rfl
                · go_wp2_with fail
                  refine wp_region_grow (Only (fun _ => False)) (fun | 4 => some (fun v _ => v = .int .i64 259) | 5 => some (fun v _ => v = .bool true) | _ => none) (by kernel_rfl) (by kernel_rfl) (Only.refl _) (fun _ _ _ => Only.trans) ?_ ?_
                  · intro i V hV v w1 w2 hr hv
                    split at hV
                    · cases hV
                      exact hv
                    · cases hV
                      exact hv
                    · cases hV
                  simp only [List.zipIdx_cons, List.zipIdx_nil, Nat.zero_add, Nat.reduceAdd]
                  iterate 1 (refine grow_det ?_ rfl (fun w' => ?_) ?_; rotate_left 1; (unfold Runs; go_simp; rfl); try simp only [Act.put, List.setIfInBounds_toArray, List.set_cons_zero, List.set_cons_succ])
                  refine grow_read (.slice ap np cp) rfl (fun w' hr hf => ?_) ?_
                  · have h1 : w'.cell? ⟨ob, 2, none⟩ = some (.slice ap np cp) := (cellOf (hr.keeps (w := w6.drew) OB6.out (fun e => e)) 2).trans rfl
                    unfold Runs
                    go_simp
                  simp only [Act.put, List.setIfInBounds_toArray, List.set_cons_zero, List.set_cons_succ]
                  iterate 2 (refine grow_det ?_ rfl (fun w' => ?_) ?_; rotate_left 1; (unfold Runs; go_simp; rfl); try simp only [Act.put, List.setIfInBounds_toArray, List.set_cons_zero, List.set_cons_succ])
                  refine grow_pred _ rfl (fun w' hr hf => ?_) (fun v => ?_)
                  · have h1 := (CR6.out.drew.grow hr)
                    unfold Gives gives
                    go_simp
                    refine (len_calls w' p r _ h1.j.st.disk).mono ?_
                    rintro e w14 ⟨rfl, rfl⟩
                    rw [h1.len]
                    first | exact ⟨_, rfl, Only.refl _ _, rfl⟩ | exact ⟨Only.refl _ _, rfl⟩ | exact ⟨rfl, Only.refl _ _⟩ | exact Only.refl _ _
                  simp only [Act.put, List.setIfInBounds_toArray, List.set_cons_zero, List.set_cons_succ]
                  refine grow_pred _ rfl (fun w' hr hf => ?_) (fun v => ?_)
                  · have h9 := hf 4 (by kernel_rfl)
                    rw [upd_self] at h9
                    subst h9
                    have h1 := (CR6.out.drew.grow hr)
                    unfold Gives gives
                    go_simp
                    refine (h1.group ha (by omega) ap pl np cp PLN.out NMAX.out PL.out).mono ?_
                    rintro e w14 ⟨rfl, o14⟩
                    rw [MAY6.out]
                    first | exact ⟨_, rfl, o14, rfl⟩ | exact ⟨o14, rfl⟩ | exact ⟨rfl, o14⟩ | exact o14
                  simp only [Act.put, List.setIfInBounds_toArray, List.set_cons_zero, List.set_cons_succ]
                  refine grow_read (.bool false) rfl (fun w' hr hf => ?_) ?_
                  · have h9 := hf 5 (by kernel_rfl)
                    rw [upd_self] at h9
                    subst h9
                    unfold Runs
                    go_simp
                  simp only [Act.put, List.setIfInBounds_toArray, List.set_cons_zero, List.set_cons_succ]
                  refine grow_end (fun w7 hr hf => ?_)
                  clear hf
                  have CR7 := Lib.hid (CR6.out.drew.grow hr)
                  have OB7 := Lib.hid (show OpAt w7 ob kd nn ap np cp from hr.keeps (w := w6.drew) OB6.out (fun e => e))
                  clear hr
                  have ot0 : w7.cell? ⟨ob, 0, none⟩ = some (.int .i64 kd) := (cellOf OB7.out 0).trans rfl
                  have ot1 : w7.cell? ⟨ob, 1, none⟩ = some (.int .i64 nn) := (cellOf OB7.out 1).trans rfl
                  have ot2 : w7.cell? ⟨ob, 2, none⟩ = some (.slice ap np cp) := (cellOf OB7.out 2).trans rfl
                  obtain ⟨hg6, hcl6⟩ := HZ6.out (by first | rfl | trivial)
                  subst hg6
                  have hwn : IntKind.i64.wrap ((gj : Int) + 1) = ((gj + 1 : Nat) : Int) := by rw [IntWalk.i64_in _ (by omega)]; omega
                  have CL6 := Lib.hid hcl6
                  clear hcl6
                  go_wp2_with fail
                  refine (CR7.out.with ha (by omega) ap pl np cp PLN.out GR.out PL.out).mono ?_
                  rintro e w8 ⟨v8, rfl, hc8, o8⟩
                  have CR8 := Lib.hid hc8
                  clear hc8 o8 ot0 ot1 ot2
                  go_wp2_with fail
                  go_meet
                  case rel => exact ⟨jb, gj + 1, gj + 1, D6, applied pl E, _, false, false, hl, rfl, rfl, rfl, rfl, rfl, CR8.out.mono (by omega), .inl ⟨(NX6.out.on rfl).1, CL6.out, rfl, rfl, rfl⟩, by omega, fun e => by cases e⟩
                · go_wp2_with fail
                  refine wp_region_grow (Only (fun _ => False)) (fun | 4 => some (fun v _ => v = .int .i64 259) | 5 => some (fun v _ => v = .bool true) | _ => none) (by kernel_rfl) (by kernel_rfl) (Only.refl _) (fun _ _ _ => Only.trans) ?_ ?_
                  · intro i V hV v w1 w2 hr hv
                    split at hV
                    · cases hV
                      exact hv
                    · cases hV
                      exact hv
                    · cases hV
                  simp only [List.zipIdx_cons, List.zipIdx_nil, Nat.zero_add, Nat.reduceAdd]
                  iterate 1 (refine grow_det ?_ rfl (fun w' => ?_) ?_; rotate_left 1; (unfold Runs; go_simp; rfl); try simp only [Act.put, List.setIfInBounds_toArray, List.set_cons_zero, List.set_cons_succ])
                  refine grow_read (.slice ap np cp) rfl (fun w' hr hf => ?_) ?_
                  · have h1 : w'.cell? ⟨ob, 2, none⟩ = some (.slice ap np cp) := (cellOf (hr.keeps (w := w6.drew) OB6.out (fun e => e)) 2).trans rfl
                    unfold Runs
                    go_simp
                  simp only [Act.put, List.setIfInBounds_toArray, List.set_cons_zero, List.set_cons_succ]
                  iterate 2 (refine grow_det ?_ rfl (fun w' => ?_) ?_; rotate_left 1; (unfold Runs; go_simp; rfl); try simp only [Act.put, List.setIfInBounds_toArray, List.set_cons_zero, List.set_cons_succ])
                  refine grow_pred _ rfl (fun w' hr hf => ?_) (fun v => ?_)
                  · have h1 := (CR6.out.drew.grow hr)
                    unfold Gives gives
                    go_simp
                    refine (len_calls w' p r _ h1.j.st.disk).mono ?_
                    rintro e w14 ⟨rfl, rfl⟩
                    rw [h1.len]
                    first | exact ⟨_, rfl, Only.refl _ _, rfl⟩ | exact ⟨Only.refl _ _, rfl⟩ | exact ⟨rfl, Only.refl _ _⟩ | exact Only.refl _ _
                  simp only [Act.put, List.setIfInBounds_toArray, List.set_cons_zero, List.set_cons_succ]
                  refine grow_pred _ rfl (fun w' hr hf => ?_) (fun v => ?_)
                  · have h9 := hf 4 (by kernel_rfl)
                    rw [upd_self] at h9
                    subst h9
                    have h1 := (CR6.out.drew.grow hr)
                    unfold Gives gives
                    go_simp
                    refine (h1.group ha (by omega) ap pl np cp PLN.out NMAX.out PL.out).mono ?_
                    rintro e w14 ⟨rfl, o14⟩
                    rw [MAY6.out]
                    first | exact ⟨_, rfl, o14, rfl⟩ | exact ⟨o14, rfl⟩ | exact ⟨rfl, o14⟩ | exact o14
                  simp only [Act.put, List.setIfInBounds_toArray, List.set_cons_zero, List.set_cons_succ]
                  refine grow_read (.bool false) rfl (fun w' hr hf => ?_) ?_
                  · have h9 := hf 5 (by kernel_rfl)
                    rw [upd_self] at h9
                    subst h9
                    unfold Runs
                    go_simp
                  simp only [Act.put, List.setIfInBounds_toArray, List.set_cons_zero, List.set_cons_succ]
                  refine grow_end (fun w7 hr hf => ?_)
                  clear hf
                  have CR7 := Lib.hid (CR6.out.drew.grow hr)
                  have OB7 := Lib.hid (show OpAt w7 ob kd nn ap np cp from hr.keeps (w := w6.drew) OB6.out (fun e => e))
                  clear hr
                  have ot0 : w7.cell? ⟨ob, 0, none⟩ = some (.int .i64 kd) := (cellOf OB7.out 0).trans rfl
                  have ot1 : w7.cell? ⟨ob, 1, none⟩ = some (.int .i64 nn) := (cellOf OB7.out 1).trans rfl
                  have ot2 : w7.cell? ⟨ob, 2, none⟩ = some (.slice ap np cp) := (cellOf OB7.out 2).trans rfl
                  go_wp2_with fail
                  go_meet
                  case rel => exact ⟨jb, g6, gj, D6, E, _, true, false, pl, rfl, rfl, rfl, rfl, rfl, CR7.out.mono (by omega), .inr ⟨(NX6.out.off (by decide)).2.1, by
                    rcases HS6.out with h | h
                    · exact ⟨_, _, h, .inl ⟨rfl, rfl⟩⟩
                    · exact ⟨_, _, h, .inr ⟨rfl, GR.out, rfl, rfl⟩⟩⟩, by omega, fun _ => ⟨ap, cp, congrArg (fun q => Value.slice ap q cp) PLN.out, PL.out⟩⟩
              · have hmay2 : jMay D at_ pl = false := by simpa using hmay
                have MAY6 := Lib.hid hmay2
                have hcm := CR5.out.refused ha (by omega) (by omega) (by omega) ap pl np cp PLN.out NMAX.out hmay2 PL.out
                have HCM := Lib.hid hcm
                clear hcm hmay hmay2
                go_wp2_with fail
                refine HCM.out.mono ?_
                rintro e w6 ⟨rfl, cr6, o6⟩
                have OB6 := Lib.hid (show OpAt w6 ob kd nn ap np cp from CR5.out.ob OB.out o6)
                have CR6 := Lib.hid cr6
                clear ot0 ot1 ot2 o6 cr6
                go_wp2_with fail
                refine wp_region_grow (Only (fun _ => False)) (fun | 4 => some (fun v _ => v = .int .i64 259) | 5 => some (fun v _ => v = .bool false) | _ => none) (by kernel_rfl) (by kernel_rfl) (Only.refl _) (fun _ _ _ => Only.trans) ?_ ?_
                · intro i V hV v w1 w2 hr hv
                  split at hV
                  · cases hV
                    exact hv
                  · cases hV
                    exact hv
                  · cases hV
                simp only [List.zipIdx_cons, List.zipIdx_nil, Nat.zero_add, Nat.reduceAdd]
                iterate 1 (refine grow_det ?_ rfl (fun w' => ?_) ?_; rotate_left 1; (unfold Runs; go_simp; rfl); try simp only [Act.put, List.setIfInBounds_toArray, List.set_cons_zero, List.set_cons_succ])
                refine grow_read (.slice ap np cp) rfl (fun w' hr hf => ?_) ?_
                · have h1 : w'.cell? ⟨ob, 2, none⟩ = some (.slice ap np cp) := (cellOf (hr.keeps (w := w6.drew) OB6.out (fun e => e)) 2).trans rfl
                  unfold Runs
                  go_simp
                simp only [Act.put, List.setIfInBounds_toArray, List.set_cons_zero, List.set_cons_succ]
                iterate 2 (refine grow_det ?_ rfl (fun w' => ?_) ?_; rotate_left 1; (unfold Runs; go_simp; rfl); try simp only [Act.put, List.setIfInBounds_toArray, List.set_cons_zero, List.set_cons_succ])
                refine grow_pred _ rfl (fun w' hr hf => ?_) (fun v => ?_)
                · have h1 := (CR6.out.drew.grow hr)
                  unfold Gives gives
                  go_simp
                  refine (len_calls w' p r _ h1.j.st.disk).mono ?_
                  rintro e w14 ⟨rfl, rfl⟩
                  rw [h1.len]
                  first | exact ⟨_, rfl, Only.refl _ _, rfl⟩ | exact ⟨Only.refl _ _, rfl⟩ | exact ⟨rfl, Only.refl _ _⟩ | exact Only.refl _ _
                simp only [Act.put, List.setIfInBounds_toArray, List.set_cons_zero, List.set_cons_succ]
                refine grow_pred _ rfl (fun w' hr hf => ?_) (fun v => ?_)
                · have h9 := hf 4 (by kernel_rfl)
                  rw [upd_self] at h9
                  subst h9
                  have h1 := (CR6.out.drew.grow hr)
                  unfold Gives gives
                  go_simp
                  refine (h1.group ha (by omega) ap pl np cp PLN.out NMAX.out PL.out).mono ?_
                  rintro e w14 ⟨rfl, o14⟩
                  rw [MAY6.out]
                  first | exact ⟨_, rfl, o14, rfl⟩ | exact ⟨o14, rfl⟩ | exact ⟨rfl, o14⟩ | exact o14
                simp only [Act.put, List.setIfInBounds_toArray, List.set_cons_zero, List.set_cons_succ]
                refine grow_read (.bool true) rfl (fun w' hr hf => ?_) ?_
                · have h9 := hf 5 (by kernel_rfl)
                  rw [upd_self] at h9
                  subst h9
                  unfold Runs
                  go_simp
                simp only [Act.put, List.setIfInBounds_toArray, List.set_cons_zero, List.set_cons_succ]
                refine grow_end (fun w7 hr hf => ?_)
                clear hf
                have CR7 := Lib.hid (CR6.out.drew.grow hr)
                have OB7 := Lib.hid (show OpAt w7 ob kd nn ap np cp from hr.keeps (w := w6.drew) OB6.out (fun e => e))
                clear hr
                go_wp2_with fail
                go_meet
                case rel => exact ⟨jb, gj, gj, D, E, _, false, false, hl, rfl, rfl, rfl, rfl, rfl, CR7.out.mono (by omega), MD.out, by omega, HH.out⟩
          · as_aux_lemma =>
              by_cases hmay : jMay D at_ pl = true
              · have hgr := group_of_may CR5.out.len hmay
                have GR := Lib.hid hgr
                have hcm := CR5.out.commit DOF.out.symm ha (by omega) (by omega) (by omega) CL.out ap pl np cp PLN.out hgr PL.out
                have HCM := Lib.hid hcm
                clear hcm hmay hgr
                go_wp2_with fail
                refine HCM.out.mono ?_
                rintro e w6 ⟨c, D6, g6, rfl, cr6, nx6, hz6, hs6, o6⟩
                have OB6 := Lib.hid (show OpAt w6 ob kd nn ap np cp from CR5.out.ob OB.out o6)
                have CR6 := Lib.hid cr6
                have MAY6 := Lib.hid (may_of_group cr6.len GR.out)
                clear ot0 ot1 ot2 o6 cr6
                have hcc : c = 0 ∨ c = 2 := by
                  by_cases h : c = 0
                  · exact .inl h
                  · exact .inr (nx6.off h).1
                have NX6 := Lib.hid nx6
                have HZ6 := Lib.hid hz6
                have HS6 := Lib.hid hs6
                clear nx6 hz6 hs6
                rcases hcc with rfl | rfl
                · go_wp2_with fail
                  refine wp_region_grow (Only (fun _ => False)) (fun | 4 => some (fun v _ => v = .int .i64 259) | 5 => some (fun v _ => v = .bool true) | _ => none) (by kernel_rfl) (by kernel_rfl) (Only.refl _) (fun _ _ _ => Only.trans) ?_ ?_
                  · intro i V hV v w1 w2 hr hv
                    split at hV
                    · cases hV
                      exact hv
                    · cases hV
                      exact hv
                    · cases hV
                  simp only [List.zipIdx_cons, List.zipIdx_nil, Nat.zero_add, Nat.reduceAdd]
                  iterate 1 (refine grow_det ?_ rfl (fun w' => ?_) ?_; rotate_left 1; (unfold Runs; go_simp; rfl); try simp only [Act.put, List.setIfInBounds_toArray, List.set_cons_zero, List.set_cons_succ])
                  refine grow_read (.slice ap np cp) rfl (fun w' hr hf => ?_) ?_
                  · have h1 : w'.cell? ⟨ob, 2, none⟩ = some (.slice ap np cp) := (cellOf (hr.keeps (w := w6.drew) OB6.out (fun e => e)) 2).trans rfl
                    unfold Runs
                    go_simp
                  simp only [Act.put, List.setIfInBounds_toArray, List.set_cons_zero, List.set_cons_succ]
                  iterate 2 (refine grow_det ?_ rfl (fun w' => ?_) ?_; rotate_left 1; (unfold Runs; go_simp; rfl); try simp only [Act.put, List.setIfInBounds_toArray, List.set_cons_zero, List.set_cons_succ])
                  refine grow_pred _ rfl (fun w' hr hf => ?_) (fun v => ?_)
                  · have h1 := (CR6.out.drew.grow hr)
                    unfold Gives gives
                    go_simp
                    refine (len_calls w' p r _ h1.j.st.disk).mono ?_
                    rintro e w14 ⟨rfl, rfl⟩
                    rw [h1.len]
                    first | exact ⟨_, rfl, Only.refl _ _, rfl⟩ | exact ⟨Only.refl _ _, rfl⟩ | exact ⟨rfl, Only.refl _ _⟩ | exact Only.refl _ _
                  simp only [Act.put, List.setIfInBounds_toArray, List.set_cons_zero, List.set_cons_succ]
                  refine grow_pred _ rfl (fun w' hr hf => ?_) (fun v => ?_)
                  · have h9 := hf 4 (by kernel_rfl)
                    rw [upd_self] at h9
                    subst h9
                    have h1 := (CR6.out.drew.grow hr)
                    unfold Gives gives
                    go_simp
                    refine (h1.group ha (by omega) ap pl np cp PLN.out NMAX.out PL.out).mono ?_
                    rintro e w14 ⟨rfl, o14⟩
                    rw [MAY6.out]
                    first | exact ⟨_, rfl, o14, rfl⟩ | exact ⟨o14, rfl⟩ | exact ⟨rfl, o14⟩ | exact o14
                  simp only [Act.put, List.setIfInBounds_toArray, List.set_cons_zero, List.set_cons_succ]
                  refine grow_read (.bool false) rfl (fun w' hr hf => ?_) ?_
                  · have h9 := hf 5 (by kernel_rfl)
                    rw [upd_self] at h9
                    subst h9
                    unfold Runs
                    go_simp
                  simp only [Act.put, List.setIfInBounds_toArray, List.set_cons_zero, List.set_cons_succ]
                  refine grow_end (fun w7 hr hf => ?_)
                  clear hf
                  have CR7 := Lib.hid (CR6.out.drew.grow hr)
                  have OB7 := Lib.hid (show OpAt w7 ob kd nn ap np cp from hr.keeps (w := w6.drew) OB6.out (fun e => e))
                  clear hr
                  have ot0 : w7.cell? ⟨ob, 0, none⟩ = some (.int .i64 kd) := (cellOf OB7.out 0).trans rfl
                  have ot1 : w7.cell? ⟨ob, 1, none⟩ = some (.int .i64 nn) := (cellOf OB7.out 1).trans rfl
                  have ot2 : w7.cell? ⟨ob, 2, none⟩ = some (.slice ap np cp) := (cellOf OB7.out 2).trans rfl
                  obtain ⟨hg6, hcl6⟩ := HZ6.out (by first | rfl | trivial)
                  subst hg6
                  have hwn : IntKind.i64.wrap ((gj : Int) + 1) = ((gj + 1 : Nat) : Int) := by rw [IntWalk.i64_in _ (by omega)]; omega
                  have CL6 := Lib.hid hcl6
                  clear hcl6
                  go_wp2_with fail
                  refine (CR7.out.with ha (by omega) ap pl np cp PLN.out GR.out PL.out).mono ?_
                  rintro e w8 ⟨v8, rfl, hc8, o8⟩
                  have CR8 := Lib.hid hc8
                  clear hc8 o8 ot0 ot1 ot2
                  go_wp2_with fail
                  go_meet
                  case rel => exact ⟨jb, gj + 1, gj + 1, D6, applied pl E, _, false, false, hl, rfl, rfl, rfl, rfl, rfl, CR8.out.mono (by omega), .inl ⟨(NX6.out.on rfl).1, CL6.out, rfl, rfl, rfl⟩, by omega, fun e => by cases e⟩
                · go_wp2_with fail
                  refine wp_region_grow (Only (fun _ => False)) (fun | 4 => some (fun v _ => v = .int .i64 259) | 5 => some (fun v _ => v = .bool true) | _ => none) (by kernel_rfl) (by kernel_rfl) (Only.refl _) (fun _ _ _ => Only.trans) ?_ ?_
                  · intro i V hV v w1 w2 hr hv
                    split at hV
                    · cases hV
                      exact hv
                    · cases hV
                      exact hv
                    · cases hV
                  simp only [List.zipIdx_cons, List.zipIdx_nil, Nat.zero_add, Nat.reduceAdd]
                  iterate 1 (refine grow_det ?_ rfl (fun w' => ?_) ?_; rotate_left 1; (unfold Runs; go_simp; rfl); try simp only [Act.put, List.setIfInBounds_toArray, List.set_cons_zero, List.set_cons_succ])
                  refine grow_read (.slice ap np cp) rfl (fun w' hr hf => ?_) ?_
                  · have h1 : w'.cell? ⟨ob, 2, none⟩ = some (.slice ap np cp) := (cellOf (hr.keeps (w := w6.drew) OB6.out (fun e => e)) 2).trans rfl
                    unfold Runs
                    go_simp
                  simp only [Act.put, List.setIfInBounds_toArray, List.set_cons_zero, List.set_cons_succ]
                  iterate 2 (refine grow_det ?_ rfl (fun w' => ?_) ?_; rotate_left 1; (unfold Runs; go_simp; rfl); try simp only [Act.put, List.setIfInBounds_toArray, List.set_cons_zero, List.set_cons_succ])
                  refine grow_pred _ rfl (fun w' hr hf => ?_) (fun v => ?_)
                  · have h1 := (CR6.out.drew.grow hr)
                    unfold Gives gives
                    go_simp
                    refine (len_calls w' p r _ h1.j.st.disk).mono ?_
                    rintro e w14 ⟨rfl, rfl⟩
                    rw [h1.len]
                    first | exact ⟨_, rfl, Only.refl _ _, rfl⟩ | exact ⟨Only.refl _ _, rfl⟩ | exact ⟨rfl, Only.refl _ _⟩ | exact Only.refl _ _
                  simp only [Act.put, List.setIfInBounds_toArray, List.set_cons_zero, List.set_cons_succ]
                  refine grow_pred _ rfl (fun w' hr hf => ?_) (fun v => ?_)
                  · have h9 := hf 4 (by kernel_rfl)
                    rw [upd_self] at h9
                    subst h9
                    have h1 := (CR6.out.drew.grow hr)
                    unfold Gives gives
                    go_simp
                    refine (h1.group ha (by omega) ap pl np cp PLN.out NMAX.out PL.out).mono ?_
                    rintro e w14 ⟨rfl, o14⟩
                    rw [MAY6.out]
                    first | exact ⟨_, rfl, o14, rfl⟩ | exact ⟨o14, rfl⟩ | exact ⟨rfl, o14⟩ | exact o14
                  simp only [Act.put, List.setIfInBounds_toArray, List.set_cons_zero, List.set_cons_succ]
                  refine grow_read (.bool false) rfl (fun w' hr hf => ?_) ?_
                  · have h9 := hf 5 (by kernel_rfl)
                    rw [upd_self] at h9
                    subst h9
                    unfold Runs
                    go_simp
                  simp only [Act.put, List.setIfInBounds_toArray, List.set_cons_zero, List.set_cons_succ]
                  refine grow_end (fun w7 hr hf => ?_)
                  clear hf
                  have CR7 := Lib.hid (CR6.out.drew.grow hr)
                  have OB7 := Lib.hid (show OpAt w7 ob kd nn ap np cp from hr.keeps (w := w6.drew) OB6.out (fun e => e))
                  clear hr
                  have ot0 : w7.cell? ⟨ob, 0, none⟩ = some (.int .i64 kd) := (cellOf OB7.out 0).trans rfl
                  have ot1 : w7.cell? ⟨ob, 1, none⟩ = some (.int .i64 nn) := (cellOf OB7.out 1).trans rfl
                  have ot2 : w7.cell? ⟨ob, 2, none⟩ = some (.slice ap np cp) := (cellOf OB7.out 2).trans rfl
                  go_wp2_with fail
                  go_meet
                  case rel => exact ⟨jb, g6, gj, D6, E, _, true, false, pl, rfl, rfl, rfl, rfl, rfl, CR7.out.mono (by omega), .inr ⟨(NX6.out.off (by decide)).2.1, by
                    rcases HS6.out with h | h
                    · exact ⟨_, _, h, .inl ⟨rfl, rfl⟩⟩
                    · exact ⟨_, _, h, .inr ⟨rfl, GR.out, rfl, rfl⟩⟩⟩, by omega, fun _ => ⟨ap, cp, congrArg (fun q => Value.slice ap q cp) PLN.out, PL.out⟩⟩
              · have hmay2 : jMay D at_ pl = false := by simpa using hmay
                have MAY6 := Lib.hid hmay2
                have hcm := CR5.out.refused ha (by omega) (by omega) (by omega) ap pl np cp PLN.out NMAX.out hmay2 PL.out
                have HCM := Lib.hid hcm
                clear hcm hmay hmay2
                go_wp2_with fail
                refine HCM.out.mono ?_
                rintro e w6 ⟨rfl, cr6, o6⟩
                have OB6 := Lib.hid (show OpAt w6 ob kd nn ap np cp from CR5.out.ob OB.out o6)
                have CR6 := Lib.hid cr6
                clear ot0 ot1 ot2 o6 cr6
                go_wp2_with fail
                refine wp_region_grow (Only (fun _ => False)) (fun | 4 => some (fun v _ => v = .int .i64 259) | 5 => some (fun v _ => v = .bool false) | _ => none) (by kernel_rfl) (by kernel_rfl) (Only.refl _) (fun _ _ _ => Only.trans) ?_ ?_
                · intro i V hV v w1 w2 hr hv
                  split at hV
                  · cases hV
                    exact hv
                  · cases hV
                    exact hv
                  · cases hV
                simp only [List.zipIdx_cons, List.zipIdx_nil, Nat.zero_add, Nat.reduceAdd]
                iterate 1 (refine grow_det ?_ rfl (fun w' => ?_) ?_; rotate_left 1; (unfold Runs; go_simp; rfl); try simp only [Act.put, List.setIfInBounds_toArray, List.set_cons_zero, List.set_cons_succ])
                refine grow_read (.slice ap np cp) rfl (fun w' hr hf => ?_) ?_
                · have h1 : w'.cell? ⟨ob, 2, none⟩ = some (.slice ap np cp) := (cellOf (hr.keeps (w := w6.drew) OB6.out (fun e => e)) 2).trans rfl
                  unfold Runs
                  go_simp
                simp only [Act.put, List.setIfInBounds_toArray, List.set_cons_zero, List.set_cons_succ]
                iterate 2 (refine grow_det ?_ rfl (fun w' => ?_) ?_; rotate_left 1; (unfold Runs; go_simp; rfl); try simp only [Act.put, List.setIfInBounds_toArray, List.set_cons_zero, List.set_cons_succ])
                refine grow_pred _ rfl (fun w' hr hf => ?_) (fun v => ?_)
                · have h1 := (CR6.out.drew.grow hr)
                  unfold Gives gives
                  go_simp
                  refine (len_calls w' p r _ h1.j.st.disk).mono ?_
                  rintro e w14 ⟨rfl, rfl⟩
                  rw [h1.len]
                  first | exact ⟨_, rfl, Only.refl _ _, rfl⟩ | exact ⟨Only.refl _ _, rfl⟩ | exact ⟨rfl, Only.refl _ _⟩ | exact Only.refl _ _
                simp only [Act.put, List.setIfInBounds_toArray, List.set_cons_zero, List.set_cons_succ]
                refine grow_pred _ rfl (fun w' hr hf => ?_) (fun v => ?_)
                · have h9 := hf 4 (by kernel_rfl)
                  rw [upd_self] at h9
                  subst h9
                  have h1 := (CR6.out.drew.grow hr)
                  unfold Gives gives
                  go_simp
                  refine (h1.group ha (by omega) ap pl np cp PLN.out NMAX.out PL.out).mono ?_
                  rintro e w14 ⟨rfl, o14⟩
                  rw [MAY6.out]
                  first | exact ⟨_, rfl, o14, rfl⟩ | exact ⟨o14, rfl⟩ | exact ⟨rfl, o14⟩ | exact o14
                simp only [Act.put, List.setIfInBounds_toArray, List.set_cons_zero, List.set_cons_succ]
                refine grow_read (.bool true) rfl (fun w' hr hf => ?_) ?_
                · have h9 := hf 5 (by kernel_rfl)
                  rw [upd_self] at h9
                  subst h9
                  unfold Runs
                  go_simp
                simp only [Act.put, List.setIfInBounds_toArray, List.set_cons_zero, List.set_cons_succ]
                refine grow_end (fun w7 hr hf => ?_)
                clear hf
                have CR7 := Lib.hid (CR6.out.drew.grow hr)
                have OB7 := Lib.hid (show OpAt w7 ob kd nn ap np cp from hr.keeps (w := w6.drew) OB6.out (fun e => e))
                clear hr
                go_wp2_with fail
                go_meet
                case rel => exact ⟨jb, gj, gj, D, E, _, false, false, hl, rfl, rfl, rfl, rfl, rfl, CR7.out.mono (by omega), MD.out, by omega, HH.out⟩
          · as_aux_lemma =>
              by_cases hmay : jMay D at_ pl = true
              · have hgr := group_of_may CR5.out.len hmay
                have GR := Lib.hid hgr
                have hcm := CR5.out.commit DOF.out.symm ha (by omega) (by omega) (by omega) CL.out ap pl np cp PLN.out hgr PL.out
                have HCM := Lib.hid hcm
                clear hcm hmay hgr
                go_wp2_with fail
                refine HCM.out.mono ?_
                rintro e w6 ⟨c, D6, g6, rfl, cr6, nx6, hz6, hs6, o6⟩
                have OB6 := Lib.hid (show OpAt w6 ob kd nn ap np cp from CR5.out.ob OB.out o6)
                have CR6 := Lib.hid cr6
                have MAY6 := Lib.hid (may_of_group cr6.len GR.out)
                clear ot0 ot1 ot2 o6 cr6
                have hcc : c = 0 ∨ c = 2 := by
                  by_cases h : c = 0
                  · exact .inl h
                  · exact .inr (nx6.off h).1
                have NX6 := Lib.hid nx6
                have HZ6 := Lib.hid hz6
                have HS6 := Lib.hid hs6
                clear nx6 hz6 hs6
                rcases hcc with rfl | rfl
                · go_wp2_with fail
                  refine wp_region_grow (Only (fun _ => False)) (fun | 4 => some (fun v _ => v = .int .i64 259) | 5 => some (fun v _ => v = .bool true) | _ => none) (by kernel_rfl) (by kernel_rfl) (Only.refl _) (fun _ _ _ => Only.trans) ?_ ?_
                  · intro i V hV v w1 w2 hr hv
                    split at hV
                    · cases hV
                      exact hv
                    · cases hV
                      exact hv
                    · cases hV
                  simp only [List.zipIdx_cons, List.zipIdx_nil, Nat.zero_add, Nat.reduceAdd]
                  iterate 1 (refine grow_det ?_ rfl (fun w' => ?_) ?_; rotate_left 1; (unfold Runs; go_simp; rfl); try simp only [Act.put, List.setIfInBounds_toArray, List.set_cons_zero, List.set_cons_succ])
                  refine grow_read (.slice ap np cp) rfl (fun w' hr hf => ?_) ?_
                  · have h1 : w'.cell? ⟨ob, 2, none⟩ = some (.slice ap np cp) := (cellOf (hr.keeps (w := w6.drew) OB6.out (fun e => e)) 2).trans rfl
                    unfold Runs
                    go_simp
                  simp only [Act.put, List.setIfInBounds_toArray, List.set_cons_zero, List.set_cons_succ]
                  iterate 2 (refine grow_det ?_ rfl (fun w' => ?_) ?_; rotate_left 1; (unfold Runs; go_simp; rfl); try simp only [Act.put, List.setIfInBounds_toArray, List.set_cons_zero, List.set_cons_succ])
                  refine grow_pred _ rfl (fun w' hr hf => ?_) (fun v => ?_)
                  · have h1 := (CR6.out.drew.grow hr)
                    unfold Gives gives
                    go_simp
                    refine (len_calls w' p r _ h1.j.st.disk).mono ?_
                    rintro e w14 ⟨rfl, rfl⟩
                    rw [h1.len]
                    first | exact ⟨_, rfl, Only.refl _ _, rfl⟩ | exact ⟨Only.refl _ _, rfl⟩ | exact ⟨rfl, Only.refl _ _⟩ | exact Only.refl _ _
                  simp only [Act.put, List.setIfInBounds_toArray, List.set_cons_zero, List.set_cons_succ]
                  refine grow_pred _ rfl (fun w' hr hf => ?_) (fun v => ?_)
                  · have h9 := hf 4 (by kernel_rfl)
                    rw [upd_self] at h9
                    subst h9
                    have h1 := (CR6.out.drew.grow hr)
                    unfold Gives gives
                    go_simp
                    refine (h1.group ha (by omega) ap pl np cp PLN.out NMAX.out PL.out).mono ?_
                    rintro e w14 ⟨rfl, o14⟩
                    rw [MAY6.out]
                    first | exact ⟨_, rfl, o14, rfl⟩ | exact ⟨o14, rfl⟩ | exact ⟨rfl, o14⟩ | exact o14
                  simp only [Act.put, List.setIfInBounds_toArray, List.set_cons_zero, List.set_cons_succ]
                  refine grow_read (.bool false) rfl (fun w' hr hf => ?_) ?_
                  · have h9 := hf 5 (by kernel_rfl)
                    rw [upd_self] at h9
                    subst h9
                    unfold Runs
                    go_simp
                  simp only [Act.put, List.setIfInBounds_toArray, List.set_cons_zero, List.set_cons_succ]
                  refine grow_end (fun w7 hr hf => ?_)
                  clear hf
                  have CR7 := Lib.hid (CR6.out.drew.grow hr)
                  have OB7 := Lib.hid (show OpAt w7 ob kd nn ap np cp from hr.keeps (w := w6.drew) OB6.out (fun e => e))
                  clear hr
                  have ot0 : w7.cell? ⟨ob, 0, none⟩ = some (.int .i64 kd) := (cellOf OB7.out 0).trans rfl
                  have ot1 : w7.cell? ⟨ob, 1, none⟩ = some (.int .i64 nn) := (cellOf OB7.out 1).trans rfl
                  have ot2 : w7.cell? ⟨ob, 2, none⟩ = some (.slice ap np cp) := (cellOf OB7.out 2).trans rfl
                  obtain ⟨hg6, hcl6⟩ := HZ6.out (by first | rfl | trivial)
                  subst hg6
                  have hwn : IntKind.i64.wrap ((gj : Int) + 1) = ((gj + 1 : Nat) : Int) := by rw [IntWalk.i64_in _ (by omega)]; omega
                  have CL6 := Lib.hid hcl6
                  clear hcl6
                  go_wp2_with fail
                  refine (CR7.out.with ha (by omega) ap pl np cp PLN.out GR.out PL.out).mono ?_
                  rintro e w8 ⟨v8, rfl, hc8, o8⟩
                  have CR8 := Lib.hid hc8
                  clear hc8 o8 ot0 ot1 ot2
                  go_wp2_with fail
                  go_meet
                  case rel => exact ⟨jb, gj + 1, gj + 1, D6, applied pl E, _, false, false, hl, rfl, rfl, rfl, rfl, rfl, CR8.out.mono (by omega), .inl ⟨(NX6.out.on rfl).1, CL6.out, rfl, rfl, rfl⟩, by omega, fun e => by cases e⟩
                · go_wp2_with fail
                  refine wp_region_grow (Only (fun _ => False)) (fun | 4 => some (fun v _ => v = .int .i64 259) | 5 => some (fun v _ => v = .bool true) | _ => none) (by kernel_rfl) (by kernel_rfl) (Only.refl _) (fun _ _ _ => Only.trans) ?_ ?_
                  · intro i V hV v w1 w2 hr hv
                    split at hV
                    · cases hV
                      exact hv
                    · cases hV
                      exact hv
                    · cases hV
                  simp only [List.zipIdx_cons, List.zipIdx_nil, Nat.zero_add, Nat.reduceAdd]
                  iterate 1 (refine grow_det ?_ rfl (fun w' => ?_) ?_; rotate_left 1; (unfold Runs; go_simp; rfl); try simp only [Act.put, List.setIfInBounds_toArray, List.set_cons_zero, List.set_cons_succ])
                  refine grow_read (.slice ap np cp) rfl (fun w' hr hf => ?_) ?_
                  · have h1 : w'.cell? ⟨ob, 2, none⟩ = some (.slice ap np cp) := (cellOf (hr.keeps (w := w6.drew) OB6.out (fun e => e)) 2).trans rfl
                    unfold Runs
                    go_simp
                  simp only [Act.put, List.setIfInBounds_toArray, List.set_cons_zero, List.set_cons_succ]
                  iterate 2 (refine grow_det ?_ rfl (fun w' => ?_) ?_; rotate_left 1; (unfold Runs; go_simp; rfl); try simp only [Act.put, List.setIfInBounds_toArray, List.set_cons_zero, List.set_cons_succ])
                  refine grow_pred _ rfl (fun w' hr hf => ?_) (fun v => ?_)
                  · have h1 := (CR6.out.drew.grow hr)
                    unfold Gives gives
                    go_simp
                    refine (len_calls w' p r _ h1.j.st.disk).mono ?_
                    rintro e w14 ⟨rfl, rfl⟩
                    rw [h1.len]
                    first | exact ⟨_, rfl, Only.refl _ _, rfl⟩ | exact ⟨Only.refl _ _, rfl⟩ | exact ⟨rfl, Only.refl _ _⟩ | exact Only.refl _ _
                  simp only [Act.put, List.setIfInBounds_toArray, List.set_cons_zero, List.set_cons_succ]
                  refine grow_pred _ rfl (fun w' hr hf => ?_) (fun v => ?_)
                  · have h9 := hf 4 (by kernel_rfl)
                    rw [upd_self] at h9
                    subst h9
                    have h1 := (CR6.out.drew.grow hr)
                    unfold Gives gives
                    go_simp
                    refine (h1.group ha (by omega) ap pl np cp PLN.out NMAX.out PL.out).mono ?_
                    rintro e w14 ⟨rfl, o14⟩
                    rw [MAY6.out]
                    first | exact ⟨_, rfl, o14, rfl⟩ | exact ⟨o14, rfl⟩ | exact ⟨rfl, o14⟩ | exact o14
                  simp only [Act.put, List.setIfInBounds_toArray, List.set_cons_zero, List.set_cons_succ]
                  refine grow_read (.bool false) rfl (fun w' hr hf => ?_) ?_
                  · have h9 := hf 5 (by kernel_rfl)
                    rw [upd_self] at h9
                    subst h9
                    unfold Runs
                    go_simp
                  simp only [Act.put, List.setIfInBounds_toArray, List.set_cons_zero, List.set_cons_succ]
                  refine grow_end (fun w7 hr hf => ?_)
                  clear hf
                  have CR7 := Lib.hid (CR6.out.drew.grow hr)
                  have OB7 := Lib.hid (show OpAt w7 ob kd nn ap np cp from hr.keeps (w := w6.drew) OB6.out (fun e => e))
                  clear hr
                  have ot0 : w7.cell? ⟨ob, 0, none⟩ = some (.int .i64 kd) := (cellOf OB7.out 0).trans rfl
                  have ot1 : w7.cell? ⟨ob, 1, none⟩ = some (.int .i64 nn) := (cellOf OB7.out 1).trans rfl
                  have ot2 : w7.cell? ⟨ob, 2, none⟩ = some (.slice ap np cp) := (cellOf OB7.out 2).trans rfl
                  go_wp2_with fail
                  go_meet
                  case rel => exact ⟨jb, g6, gj, D6, E, _, true, false, pl, rfl, rfl, rfl, rfl, rfl, CR7.out.mono (by omega), .inr ⟨(NX6.out.off (by decide)).2.1, by
                    rcases HS6.out with h | h
                    · exact ⟨_, _, h, .inl ⟨rfl, rfl⟩⟩
                    · exact ⟨_, _, h, .inr ⟨rfl, GR.out, rfl, rfl⟩⟩⟩, by omega, fun _ => ⟨ap, cp, congrArg (fun q => Value.slice ap q cp) PLN.out, PL.out⟩⟩
              · have hmay2 : jMay D at_ pl = false := by simpa using hmay
                have MAY6 := Lib.hid hmay2
                have hcm := CR5.out.refused ha (by omega) (by omega) (by omega) ap pl np cp PLN.out NMAX.out hmay2 PL.out
                have HCM := Lib.hid hcm
                clear hcm hmay hmay2
                go_wp2_with fail
                refine HCM.out.mono ?_
                rintro e w6 ⟨rfl, cr6, o6⟩
                have OB6 := Lib.hid (show OpAt w6 ob kd nn ap np cp from CR5.out.ob OB.out o6)
                have CR6 := Lib.hid cr6
                clear ot0 ot1 ot2 o6 cr6
                go_wp2_with fail
                refine wp_region_grow (Only (fun _ => False)) (fun | 4 => some (fun v _ => v = .int .i64 259) | 5 => some (fun v _ => v = .bool false) | _ => none) (by kernel_rfl) (by kernel_rfl) (Only.refl _) (fun _ _ _ => Only.trans) ?_ ?_
                · intro i V hV v w1 w2 hr hv
                  split at hV
                  · cases hV
                    exact hv
                  · cases hV
                    exact hv
                  · cases hV
                simp only [List.zipIdx_cons, List.zipIdx_nil, Nat.zero_add, Nat.reduceAdd]
                iterate 1 (refine grow_det ?_ rfl (fun w' => ?_) ?_; rotate_left 1; (unfold Runs; go_simp; rfl); try simp only [Act.put, List.setIfInBounds_toArray, List.set_cons_zero, List.set_cons_succ])
                refine grow_read (.slice ap np cp) rfl (fun w' hr hf => ?_) ?_
                · have h1 : w'.cell? ⟨ob, 2, none⟩ = some (.slice ap np cp) := (cellOf (hr.keeps (w := w6.drew) OB6.out (fun e => e)) 2).trans rfl
                  unfold Runs
                  go_simp
                simp only [Act.put, List.setIfInBounds_toArray, List.set_cons_zero, List.set_cons_succ]
                iterate 2 (refine grow_det ?_ rfl (fun w' => ?_) ?_; rotate_left 1; (unfold Runs; go_simp; rfl); try simp only [Act.put, List.setIfInBounds_toArray, List.set_cons_zero, List.set_cons_succ])
                refine grow_pred _ rfl (fun w' hr hf => ?_) (fun v => ?_)
                · have h1 := (CR6.out.drew.grow hr)
                  unfold Gives gives
                  go_simp
                  refine (len_calls w' p r _ h1.j.st.disk).mono ?_
                  rintro e w14 ⟨rfl, rfl⟩
                  rw [h1.len]
                  first | exact ⟨_, rfl, Only.refl _ _, rfl⟩ | exact ⟨Only.refl _ _, rfl⟩ | exact ⟨rfl, Only.refl _ _⟩ | exact Only.refl _ _
                simp only [Act.put, List.setIfInBounds_toArray, List.set_cons_zero, List.set_cons_succ]
                refine grow_pred _ rfl (fun w' hr hf => ?_) (fun v => ?_)
                · have h9 := hf 4 (by kernel_rfl)
                  rw [upd_self] at h9
                  subst h9
                  have h1 := (CR6.out.drew.grow hr)
                  unfold Gives gives
                  go_simp
                  refine (h1.group ha (by omega) ap pl np cp PLN.out NMAX.out PL.out).mono ?_
                  rintro e w14 ⟨rfl, o14⟩
                  rw [MAY6.out]
                  first | exact ⟨_, rfl, o14, rfl⟩ | exact ⟨o14, rfl⟩ | exact ⟨rfl, o14⟩ | exact o14
                simp only [Act.put, List.setIfInBounds_toArray, List.set_cons_zero, List.set_cons_succ]
                refine grow_read (.bool true) rfl (fun w' hr hf => ?_) ?_
                · have h9 := hf 5 (by kernel_rfl)
                  rw [upd_self] at h9
                  subst h9
                  unfold Runs
                  go_simp
                simp only [Act.put, List.setIfInBounds_toArray, List.set_cons_zero, List.set_cons_succ]
                refine grow_end (fun w7 hr hf => ?_)
                clear hf
                have CR7 := Lib.hid (CR6.out.drew.grow hr)
                have OB7 := Lib.hid (show OpAt w7 ob kd nn ap np cp from hr.keeps (w := w6.drew) OB6.out (fun e => e))
                clear hr
                go_wp2_with fail
                go_meet
                case rel => exact ⟨jb, gj, gj, D, E, _, false, false, hl, rfl, rfl, rfl, rfl, rfl, CR7.out.mono (by omega), MD.out, by omega, HH.out⟩
          · as_aux_lemma =>
              by_cases hmay : jMay D at_ pl = true
              · have hgr := group_of_may CR5.out.len hmay
                have GR := Lib.hid hgr
                have hcm := CR5.out.commit DOF.out.symm ha (by omega) (by omega) (by omega) CL.out ap pl np cp PLN.out hgr PL.out
                have HCM := Lib.hid hcm
                clear hcm hmay hgr
                go_wp2_with fail
                refine HCM.out.mono ?_
                rintro e w6 ⟨c, D6, g6, rfl, cr6, nx6, hz6, hs6, o6⟩
                have OB6 := Lib.hid (show OpAt w6 ob kd nn ap np cp from CR5.out.ob OB.out o6)
                have CR6 := Lib.hid cr6
                have MAY6 := Lib.hid (may_of_group cr6.len GR.out)
                clear ot0 ot1 ot2 o6 cr6
                have hcc : c = 0 ∨ c = 2 := by
                  by_cases h : c = 0
                  · exact .inl h
                  · exact .inr (nx6.off h).1
                have NX6 := Lib.hid nx6
                have HZ6 := Lib.hid hz6
                have HS6 := Lib.hid hs6
                clear nx6 hz6 hs6
                rcases hcc with rfl | rfl
                · go_wp2_with fail
                  refine wp_region_grow (Only (fun _ => False)) (fun | 4 => some (fun v _ => v = .int .i64 259) | 5 => some (fun v _ => v = .bool true) | _ => none) (by kernel_rfl) (by kernel_rfl) (Only.refl _) (fun _ _ _ => Only.trans) ?_ ?_
                  · intro i V hV v w1 w2 hr hv
                    split at hV
                    · cases hV
                      exact hv
                    · cases hV
                      exact hv
                    · cases hV
                  simp only [List.zipIdx_cons, List.zipIdx_nil, Nat.zero_add, Nat.reduceAdd]
                  iterate 1 (refine grow_det ?_ rfl (fun w' => ?_) ?_; rotate_left 1; (unfold Runs; go_simp; rfl); try simp only [Act.put, List.setIfInBounds_toArray, List.set_cons_zero, List.set_cons_succ])
                  refine grow_read (.slice ap np cp) rfl (fun w' hr hf => ?_) ?_
                  · have h1 : w'.cell? ⟨ob, 2, none⟩ = some (.slice ap np cp) := (cellOf (hr.keeps (w := w6.drew) OB6.out (fun e => e)) 2).trans rfl
                    unfold Runs
                    go_simp
                  simp only [Act.put, List.setIfInBounds_toArray, List.set_cons_zero, List.set_cons_succ]
                  iterate 2 (refine grow_det ?_ rfl (fun w' => ?_) ?_; rotate_left 1; (unfold Runs; go_simp; rfl); try simp only [Act.put, List.setIfInBounds_toArray, List.set_cons_zero, List.set_cons_succ])
                  refine grow_pred _ rfl (fun w' hr hf => ?_) (fun v => ?_)
                  · have h1 := (CR6.out.drew.grow hr)
                    unfold Gives gives
                    go_simp
                    refine (len_calls w' p r _ h1.j.st.disk).mono ?_
                    rintro e w14 ⟨rfl, rfl⟩
                    rw [h1.len]
                    first | exact ⟨_, rfl, Only.refl _ _, rfl⟩ | exact ⟨Only.refl _ _, rfl⟩ | exact ⟨rfl, Only.refl _ _⟩ | exact Only.refl _ _
                  simp only [Act.put, List.setIfInBounds_toArray, List.set_cons_zero, List.set_cons_succ]
                  refine grow_pred _ rfl (fun w' hr hf => ?_) (fun v => ?_)
                  · have h9 := hf 4 (by kernel_rfl)
                    rw [upd_self] at h9
                    subst h9
                    have h1 := (CR6.out.drew.grow hr)
                    unfold Gives gives
                    go_simp
                    refine (h1.group ha (by omega) ap pl np cp PLN.out NMAX.out PL.out).mono ?_
                    rintro e w14 ⟨rfl, o14⟩
                    rw [MAY6.out]
                    first | exact ⟨_, rfl, o14, rfl⟩ | exact ⟨o14, rfl⟩ | exact ⟨rfl, o14⟩ | exact o14
                  simp only [Act.put, List.setIfInBounds_toArray, List.set_cons_zero, List.set_cons_succ]
                  refine grow_read (.bool false) rfl (fun w' hr hf => ?_) ?_
                  · have h9 := hf 5 (by kernel_rfl)
                    rw [upd_self] at h9
                    subst h9
                    unfold Runs
                    go_simp
                  simp only [Act.put, List.setIfInBounds_toArray, List.set_cons_zero, List.set_cons_succ]
                  refine grow_end (fun w7 hr hf => ?_)
                  clear hf
                  have CR7 := Lib.hid (CR6.out.drew.grow hr)
                  have OB7 := Lib.hid (show OpAt w7 ob kd nn ap np cp from hr.keeps (w := w6.drew) OB6.out (fun e => e))
                  clear hr
                  have ot0 : w7.cell? ⟨ob, 0, none⟩ = some (.int .i64 kd) := (cellOf OB7.out 0).trans rfl
                  have ot1 : w7.cell? ⟨ob, 1, none⟩ = some (.int .i64 nn) := (cellOf OB7.out 1).trans rfl
                  have ot2 : w7.cell? ⟨ob, 2, none⟩ = some (.slice ap np cp) := (cellOf OB7.out 2).trans rfl
                  obtain ⟨hg6, hcl6⟩ := HZ6.out (by first | rfl | trivial)
                  subst hg6
                  have hwn : IntKind.i64.wrap ((gj : Int) + 1) = ((gj + 1 : Nat) : Int) := by rw [IntWalk.i64_in _ (by omega)]; omega
                  have CL6 := Lib.hid hcl6
                  clear hcl6
                  go_wp2_with fail
                  refine (CR7.out.with ha (by omega) ap pl np cp PLN.out GR.out PL.out).mono ?_
                  rintro e w8 ⟨v8, rfl, hc8, o8⟩
                  have CR8 := Lib.hid hc8
                  clear hc8 o8 ot0 ot1 ot2
                  go_wp2_with fail
                  go_meet
                  case rel => exact ⟨jb, gj + 1, gj + 1, D6, applied pl E, _, false, false, hl, rfl, rfl, rfl, rfl, rfl, CR8.out.mono (by omega), .inl ⟨(NX6.out.on rfl).1, CL6.out, rfl, rfl, rfl⟩, by omega, fun e => by cases e⟩
                · go_wp2_with fail
                  refine wp_region_grow (Only (fun _ => False)) (fun | 4 => some (fun v _ => v = .int .i64 259) | 5 => some (fun v _ => v = .bool true) | _ => none) (by kernel_rfl) (by kernel_rfl) (Only.refl _) (fun _ _ _ => Only.trans) ?_ ?_
                  · intro i V hV v w1 w2 hr hv
                    split at hV
                    · cases hV
                      exact hv
                    · cases hV
                      exact hv
                    · cases hV
                  simp only [List.zipIdx_cons, List.zipIdx_nil, Nat.zero_add, Nat.reduceAdd]
                  iterate 1 (refine grow_det ?_ rfl (fun w' => ?_) ?_; rotate_left 1; (unfold Runs; go_simp; rfl); try simp only [Act.put, List.setIfInBounds_toArray, List.set_cons_zero, List.set_cons_succ])
                  refine grow_read (.slice ap np cp) rfl (fun w' hr hf => ?_) ?_
                  · have h1 : w'.cell? ⟨ob, 2, none⟩ = some (.slice ap np cp) := (cellOf (hr.keeps (w := w6.drew) OB6.out (fun e => e)) 2).trans rfl
                    unfold Runs
                    go_simp
                  simp only [Act.put, List.setIfInBounds_toArray, List.set_cons_zero, List.set_cons_succ]
                  iterate 2 (refine grow_det ?_ rfl (fun w' => ?_) ?_; rotate_left 1; (unfold Runs; go_simp; rfl); try simp only [Act.put, List.setIfInBounds_toArray, List.set_cons_zero, List.set_cons_succ])
                  refine grow_pred _ rfl (fun w' hr hf => ?_) (fun v => ?_)
                  · have h1 := (CR6.out.drew.grow hr)
                    unfold Gives gives
                    go_simp
                    refine (len_calls w' p r _ h1.j.st.disk).mono ?_
                    rintro e w14 ⟨rfl, rfl⟩
                    rw [h1.len]
                    first | exact ⟨_, rfl, Only.refl _ _, rfl⟩ | exact ⟨Only.refl _ _, rfl⟩ | exact ⟨rfl, Only.refl _ _⟩ | exact Only.refl _ _
                  simp only [Act.put, List.setIfInBounds_toArray, List.set_cons_zero, List.set_cons_succ]
                  refine grow_pred _ rfl (fun w' hr hf => ?_) (fun v => ?_)
                  · have h9 := hf 4 (by kernel_rfl)
                    rw [upd_self] at h9
                    subst h9
                    have h1 := (CR6.out.drew.grow hr)
                    unfold Gives gives
                    go_simp
                    refine (h1.group ha (by omega) ap pl np cp PLN.out NMAX.out PL.out).mono ?_
                    rintro e w14 ⟨rfl, o14⟩
                    rw [MAY6.out]
                    first | exact ⟨_, rfl, o14, rfl⟩ | exact ⟨o14, rfl⟩ | exact ⟨rfl, o14⟩ | exact o14
                  simp only [Act.put, List.setIfInBounds_toArray, List.set_cons_zero, List.set_cons_succ]
                  refine grow_read (.bool false) rfl (fun w' hr hf => ?_) ?_
                  · have h9 := hf 5 (by kernel_rfl)
                    rw [upd_self] at h9
                    subst h9
                    unfold Runs
                    go_simp
                  simp only [Act.put, List.setIfInBounds_toArray, List.set_cons_zero, List.set_cons_succ]
                  refine grow_end (fun w7 hr hf => ?_)
                  clear hf
                  have CR7 := Lib.hid (CR6.out.drew.grow hr)
                  have OB7 := Lib.hid (show OpAt w7 ob kd nn ap np cp from hr.keeps (w := w6.drew) OB6.out (fun e => e))
                  clear hr
                  have ot0 : w7.cell? ⟨ob, 0, none⟩ = some (.int .i64 kd) := (cellOf OB7.out 0).trans rfl
                  have ot1 : w7.cell? ⟨ob, 1, none⟩ = some (.int .i64 nn) := (cellOf OB7.out 1).trans rfl
                  have ot2 : w7.cell? ⟨ob, 2, none⟩ = some (.slice ap np cp) := (cellOf OB7.out 2).trans rfl
                  go_wp2_with fail
                  go_meet
                  case rel => exact ⟨jb, g6, gj, D6, E, _, true, false, pl, rfl, rfl, rfl, rfl, rfl, CR7.out.mono (by omega), .inr ⟨(NX6.out.off (by decide)).2.1, by
                    rcases HS6.out with h | h
                    · exact ⟨_, _, h, .inl ⟨rfl, rfl⟩⟩
                    · exact ⟨_, _, h, .inr ⟨rfl, GR.out, rfl, rfl⟩⟩⟩, by omega, fun _ => ⟨ap, cp, congrArg (fun q => Value.slice ap q cp) PLN.out, PL.out⟩⟩
              · have hmay2 : jMay D at_ pl = false := by simpa using hmay
                have MAY6 := Lib.hid hmay2
                have hcm := CR5.out.refused ha (by omega) (by omega) (by omega) ap pl np cp PLN.out NMAX.out hmay2 PL.out
                have HCM := Lib.hid hcm
                clear hcm hmay hmay2
                go_wp2_with fail
                refine HCM.out.mono ?_
                rintro e w6 ⟨rfl, cr6, o6⟩
                have OB6 := Lib.hid (show OpAt w6 ob kd nn ap np cp from CR5.out.ob OB.out o6)
                have CR6 := Lib.hid cr6
                clear ot0 ot1 ot2 o6 cr6
                go_wp2_with fail
                refine wp_region_grow (Only (fun _ => False)) (fun | 4 => some (fun v _ => v = .int .i64 259) | 5 => some (fun v _ => v = .bool false) | _ => none) (by kernel_rfl) (by kernel_rfl) (Only.refl _) (fun _ _ _ => Only.trans) ?_ ?_
                · intro i V hV v w1 w2 hr hv
                  split at hV
                  · cases hV
                    exact hv
                  · cases hV
                    exact hv
                  · cases hV
                simp only [List.zipIdx_cons, List.zipIdx_nil, Nat.zero_add, Nat.reduceAdd]
                iterate 1 (refine grow_det ?_ rfl (fun w' => ?_) ?_; rotate_left 1; (unfold Runs; go_simp; rfl); try simp only [Act.put, List.setIfInBounds_toArray, List.set_cons_zero, List.set_cons_succ])
                refine grow_read (.slice ap np cp) rfl (fun w' hr hf => ?_) ?_
                · have h1 : w'.cell? ⟨ob, 2, none⟩ = some (.slice ap np cp) := (cellOf (hr.keeps (w := w6.drew) OB6.out (fun e => e)) 2).trans rfl
                  unfold Runs
                  go_simp
                simp only [Act.put, List.setIfInBounds_toArray, List.set_cons_zero, List.set_cons_succ]
                iterate 2 (refine grow_det ?_ rfl (fun w' => ?_) ?_; rotate_left 1; (unfold Runs; go_simp; rfl); try simp only [Act.put, List.setIfInBounds_toArray, List.set_cons_zero, List.set_cons_succ])
                refine grow_pred _ rfl (fun w' hr hf => ?_) (fun v => ?_)
                · have h1 := (CR6.out.drew.grow hr)
                  unfold Gives gives
                  go_simp
                  refine (len_calls w' p r _ h1.j.st.disk).mono ?_
                  rintro e w14 ⟨rfl, rfl⟩
                  rw [h1.len]
                  first | exact ⟨_, rfl, Only.refl _ _, rfl⟩ | exact ⟨Only.refl _ _, rfl⟩ | exact ⟨rfl, Only.refl _ _⟩ | exact Only.refl _ _
                simp only [Act.put, List.setIfInBounds_toArray, List.set_cons_zero, List.set_cons_succ]
                refine grow_pred _ rfl (fun w' hr hf => ?_) (fun v => ?_)
                · have h9 := hf 4 (by kernel_rfl)
                  rw [upd_self] at h9
                  subst h9
                  have h1 := (CR6.out.drew.grow hr)
                  unfold Gives gives
                  go_simp
                  refine (h1.group ha (by omega) ap pl np cp PLN.out NMAX.out PL.out).mono ?_
                  rintro e w14 ⟨rfl, o14⟩
                  rw [MAY6.out]
                  first | exact ⟨_, rfl, o14, rfl⟩ | exact ⟨o14, rfl⟩ | exact ⟨rfl, o14⟩ | exact o14
                simp only [Act.put, List.setIfInBounds_toArray, List.set_cons_zero, List.set_cons_succ]
                refine grow_read (.bool true) rfl (fun w' hr hf => ?_) ?_
                · have h9 := hf 5 (by kernel_rfl)
                  rw [upd_self] at h9
                  subst h9
                  unfold Runs
                  go_simp
                simp only [Act.put, List.setIfInBounds_toArray, List.set_cons_zero, List.set_cons_succ]
                refine grow_end (fun w7 hr hf => ?_)
                clear hf
                have CR7 := Lib.hid (CR6.out.drew.grow hr)
                have OB7 := Lib.hid (show OpAt w7 ob kd nn ap np cp from hr.keeps (w := w6.drew) OB6.out (fun e => e))
                clear hr
                go_wp2_with fail
                go_meet
                case rel => exact ⟨jb, gj, gj, D, E, _, false, false, hl, rfl, rfl, rfl, rfl, rfl, CR7.out.mono (by omega), MD.out, by omega, HH.out⟩
          · as_aux_lemma =>
              go_wp2_with fail
              refine (CR5.out.open DOF.out.symm ha (by omega) (by omega) (by omega) (.inl CL.out)).mono ?_
              rintro e w6 ⟨v, c, D6, rfl, cr6, nx6, hz6, hs6, o6⟩
              have CR6 := Lib.hid cr6
              have NX6 := Lib.hid nx6
              have HS6 := Lib.hid hs6
              have hcc : c = 0 ∨ c = 2 := by
                by_cases h : c = 0
                · exact .inl h
                · exact .inr (nx6.off h).1
              clear cr6 nx6 hs6 o6 ot0 ot1 ot2
              rcases hcc with rfl | rfl
              · obtain ⟨hcl6, j2, rfl, hj2⟩ := hz6 rfl
                have CL6 := Lib.hid hcl6
                have J6 := Lib.hid hj2
                clear hz6 hcl6 hj2
                go_wp2_with fail
                go_meet
                case rel => exact ⟨j2, gj, gj, D6, E, _, false, false, hl, rfl, rfl, rfl, rfl, rfl, (CR6.out.other J6.out).mono (by omega), .inl ⟨(NX6.out.on rfl).1, CL6.out, rfl, rfl, rfl⟩, by omega, fun e => by cases e⟩
              · clear hz6
                go_wp2_with fail
                go_meet
                case rel => exact ⟨jb, gj, gj, D6, E, _, false, false, hl, rfl, rfl, rfl, rfl, rfl, CR6.out.mono (by omega), .inr ⟨(NX6.out.off (by decide)).2.1, _, _, HS6.out, .inl ⟨rfl, rfl⟩⟩, by omega, fun e => by cases e⟩
          · as_aux_lemma =>
              go_wp2_with fail
              refine (CR5.out.fuse nn HN.out).mono ?_
              rintro e w6 ⟨rfl, cr6, o6⟩
              have CR6 := Lib.hid cr6
              clear cr6 o6 ot0 ot1 ot2
              go_wp2_with fail
              go_meet
              case rel => exact ⟨jb, gj, gj, D.fused nn, E, _, false, false, hl, rfl, rfl, rfl, rfl, rfl, CR6.out.mono (by omega), .inl ⟨fused_on nn DOF.out.symm, by rw [fused_get]; exact CL.out, rfl, rfl, rfl⟩, by omega, fun e => by cases e⟩
          · as_aux_lemma =>
              obtain ⟨g, F, hsd, hwh⟩ := MD.out.sound
              have hsmf : Which at_ gj E false hl g F := hwh
              clear hsmf
              have SD := Lib.hid hsd
              have WH := Lib.hid hwh
              have GB := Lib.hid (show g ≤ k + 1 from by rcases hwh with ⟨h, _⟩ | ⟨_, _, h, _⟩ <;> omega)
              have HA60 : Hid (at_ ≤ 60) := Lib.hid (by omega)
              have HMO : Hid ((2000 : Int) + 1000 * (k : Int) + 257 + 257 ≤ 2000 + 1000 * ((k : Int) + 1)) := Lib.hid (by omega)
              have HG : Hid (g < 1000000) := Lib.hid (by have := GB.out; omega)
              clear hsd hwh
              go_wp2_with fail
              refine CR5.out.boot.mono ?_
              rintro e w6 ⟨rfl, cr6, o6⟩
              have OB6 := Lib.hid (show OpAt w6 ob kd nn ap np cp from CR5.out.ob OB.out o6)
              have CR6 := Lib.hid cr6
              clear cr6 o6 ot0 ot1 ot2
              have ot0 : w6.cell? ⟨ob, 0, none⟩ = some (.int .i64 kd) := (cellOf OB6.out 0).trans rfl
              have ot1 : w6.cell? ⟨ob, 1, none⟩ = some (.int .i64 nn) := (cellOf OB6.out 1).trans rfl
              have ot2 : w6.cell? ⟨ob, 2, none⟩ = some (.slice ap np cp) := (cellOf OB6.out 2).trans rfl
              go_wp2_with fail
              refine (CR6.out.fuse nn HN.out).mono ?_
              rintro e w7 ⟨rfl, cr7, o7⟩
              have CR7 := Lib.hid cr7
              clear cr7 o7 ot0 ot1 ot2
              go_wp2_with fail
              refine (CR7.out.open (fused_on nn rfl) ha (by omega) (by omega) HG.out (by rw [fused_get, booted_get]; exact SD.out)).mono ?_
              rintro e w8 ⟨v8, c8, D8, rfl, cr8, -, -, hs8, -⟩
              have CR8 := Lib.hid cr8
              have HS8 := Lib.hid hs8
              clear cr8 hs8
              go_wp2_with fail
              refine CR8.out.boot.mono ?_
              rintro e w9 ⟨rfl, cr9, -⟩
              have CR9 := Lib.hid cr9
              clear cr9
              go_wp2_with fail
              refine (CR9.out.open rfl ha (by omega) (by omega) HG.out (by rw [booted_get]; exact HS8.out)).mono ?_
              rintro e w10 ⟨v10, c10, D10, rfl, cr10, nx10, hz10, -, -⟩
              have hc10 : c10 = 0 := by
                by_cases h : c10 = 0
                · exact h
                · exact absurd rfl (nx10.off h).2.2.2
              subst hc10
              obtain ⟨hcl10, j2, rfl, hj10⟩ := hz10 rfl
              have CR10 := Lib.hid cr10
              have NX10 := Lib.hid nx10
              have CL10 := Lib.hid hcl10
              have J10 := Lib.hid hj10
              clear cr10 nx10 hcl10 hj10 hz10
              rcases WH.out with ⟨rfl, rfl⟩ | ⟨hbad, -, -, -⟩
              · clear WH
                have hwn : True := trivial
                clear hwn
                as_aux_lemma =>
                go_wp2_with fail
                go_meet
                case rel => exact ⟨j2, g, g, D10, F, _, false, false, hl, rfl, rfl, rfl, rfl, rfl, (CR10.out.other J10.out).mono HMO.out, .inl ⟨(NX10.out.on rfl).1, CL10.out, rfl, rfl, rfl⟩, GB.out, fun e => by cases e⟩
              · cases hbad
          · as_aux_lemma =>
              by_cases hn7 : nn = 7
              · subst hn7
                go_wp2_with fail
                refine (CR5.out.format DOF.out.symm ha (by omega) (by omega) CL.out.out).mono ?_
                rintro e w6 ⟨c, D6, rfl, cr6, nx6, hz6, hn6, o6⟩
                have CR6 := Lib.hid cr6
                have NX6 := Lib.hid nx6
                have hcc : c = 0 ∨ c = 2 := by
                  by_cases h : c = 0
                  · exact .inl h
                  · exact .inr (nx6.off h).1
                clear cr6 nx6 o6 ot0 ot1 ot2
                rcases hcc with rfl | rfl
                · have CL6 := Lib.hid (hz6 rfl)
                  clear hz6 hn6
                  go_wp2_with fail
                  refine (CR6.out.open (NX6.out.on rfl).1 ha (by omega) (by omega) (g := 0) (by decide) (.inl CL6.out)).mono ?_
                  rintro e w7 ⟨v, c, D7, rfl, cr7, nx7, hz7, hs7, o7⟩
                  have CR7 := Lib.hid cr7
                  have NX7 := Lib.hid nx7
                  have HS7 := Lib.hid hs7
                  have hcc : c = 0 ∨ c = 2 := by
                    by_cases h : c = 0
                    · exact .inl h
                    · exact .inr (nx7.off h).1
                  clear cr7 nx7 hs7 o7
                  rcases hcc with rfl | rfl
                  · obtain ⟨hcl7, j2, rfl, hj2⟩ := hz7 rfl
                    have CL7 := Lib.hid hcl7
                    have J7 := Lib.hid hj2
                    clear hz7 hcl7 hj2
                    go_wp2_with fail
                    go_meet
                    case rel => exact ⟨j2, 0, 0, D7, E, _, false, false, hl, rfl, rfl, rfl, rfl, rfl, (CR7.out.other J7.out).mono (by omega), .inl ⟨(NX7.out.on rfl).1, CL7.out, rfl, rfl, rfl⟩, by omega, fun e => by cases e⟩
                  · clear hz7
                    go_wp2_with fail
                    go_meet
                    case rel => exact ⟨jb, gj, 0, D7, E, _, false, false, hl, rfl, rfl, rfl, rfl, rfl, CR7.out.mono (by omega), .inr ⟨(NX7.out.off (by decide)).2.1, _, _, HS7.out, .inl ⟨rfl, rfl⟩⟩, by omega, fun e => by cases e⟩
                · have HN6 := Lib.hid (hn6 (by decide))
                  clear hz6 hn6
                  go_wp2_with fail
                  go_meet
                  case rel => exact ⟨jb, gj, gj, D6, E, _, false, true, hl, rfl, rfl, rfl, rfl, rfl, CR6.out.mono (by omega), .inr ⟨(NX6.out.off (by decide)).2.1, gj, E, by rw [HN6.out]; exact .inl CL.out, .inl ⟨rfl, rfl⟩⟩, by omega, fun e => by cases e⟩
              · go_wp2_with fail
                go_meet
                case rel => exact ⟨jb, gj, gj, D, E, _, false, false, hl, rfl, rfl, rfl, rfl, rfl, CR5.out.mono (by omega), MD.out, by omega, HH.out⟩
        case rest =>
          as_aux_lemma =>
          obtain ⟨jb, gj, n, D, E, hv, sm, fr, hl, rfl, rfl, rfl, rfl, rfl, hcr, hmd, hnk, hhd⟩ := hcut
          have CRC := Lib.hid hcr
          have MDC := Lib.hid hmd
          have HHC := Lib.hid hhd
          clear hcr hmd hhd
          obtain ⟨dof, hdof⟩ : ∃ q, q = D.off := ⟨_, rfl⟩
          have DOFC := Lib.hid hdof
          have HONC := Lib.hid (on_st CRC.out.j.st)
          rw [← hdof] at HONC
          clear hdof
          go_wp2_with fail
          refine HONC.out.mono ?_
          rintro e w6 ⟨rfl, rfl⟩
          cases dof with
          | true =>
            go_wp2_with fail
            go_roundw
            case rel => exact ⟨k + 1, by go_num, by omega, by omega, jb, gj, n, D, E, _, sm, fr, hl, rfl, rfl, rfl, rfl, rfl, CRC.out, MDC.out, hnk, HHC.out⟩
            case measure => simp [intOf]; omega
          | false =>
            have hmode : Clean at_ n D.get E ∧ gj = n := by
              rcases MDC.out with ⟨_, h1, h2, _⟩ | ⟨h, _⟩
              · exact ⟨h1, h2⟩
              · rw [← DOFC.out] at h; cases h
            obtain ⟨hcl, rfl⟩ := hmode
            have hrt := rowsTo_same (at_ := at_) hcl.out 259
            have HRT := Lib.hid hrt
            clear hcl hrt
            go_wp2_with fail
            refine (CRC.out.rows DOFC.out.symm ha (by omega)).mono ?_
            rintro e w7 ⟨v, rfl, hh7, hc7, o7⟩
            rw [HRT.out] at hh7
            have H7 := Lib.hid (hh7.mono CRC.out.j.st.hB).rows
            have CR7 := Lib.hid hc7
            clear hh7 hc7 o7
            go_wp2_with fail
            refine (same_calls w7 w.heap.size _ _ _ _ H7.out CR7.out.has.rows).mono ?_
            rintro e w8 ⟨rfl, o8⟩
            have CR8 := Lib.hid (CR7.out.grow o8)
            have hdd : decide (rowsTo at_ E 259 = rowsTo at_ E 259) = true := decide_eq_true rfl
            rw [hdd]
            clear o8 hdd
            go_wp2_with fail
            refine (groups_calls w8 p jb at_ _ CR8.out.j.cells).mono ?_
            rintro e w9 ⟨rfl, rfl⟩
            go_wp2_with fail
            go_roundw
            case rel => exact ⟨k + 1, by go_num, by omega, by omega, jb, gj, gj, D, E, _, sm, fr, hl, rfl, rfl, rfl, rfl, rfl, CR8.out, MDC.out, hnk, HHC.out⟩
            case measure => simp [intOf]; omega
    · have hstop : (k = len1 ∧ ¬ k < len1) ∨ (k < len1 ∧ k = 60 ∧ ¬ k < 60) := by omega
      clear hgo
      rcases hstop with ⟨-, hstop⟩ | ⟨hstop1, -, hstop⟩
      · go_wp2_with fail
        go_ret
        exact ⟨rfl, CR.out.j.st.below⟩
      · go_wp2_with fail
        go_ret
        exact ⟨rfl, CR.out.j.st.below⟩

/-! ### THE ROW's STEP -/
set_option maxRecDepth 100000 in
theorem lifted (os : Os) (started : os.Started) (H : Type) (enc : TypeId × Value → H) :
    ReturnsInHanded {} Try.checked os 7 .any (Rows.journalCrashesSpec.pre6 enc Try.prog Try.f7 Rows.journalCrashesRow.domain false) (Rows.journalCrashesSpec.post enc Try.prog Try.f7 false true false false) := by
  refine returnsInHanded_of_change (C := Try.checked) own started (by kernel_rfl) Try.func7
    (ChangeSpec.witness6 (enc := enc) (C := Try.checked) false ⟨#[], #[.int .i64 0, .slice none 0 0], []⟩ 8 (by kernel_rfl) (by kernel_rfl) (by kernel_rfl) (by kernel_rfl)) ?_
  intro W base args ds gs before hval0 hW hcnd _
  have hval : ∀ (j : Nat) t v, Try.f7.params[j]? = some t → args[j]? = some v → Value.okWide Try.prog W .any base t v := hval0
  have hW' := hW
  obtain ⟨p, q, hA0, hV, rfl, hfz, hnd⟩ := hW
  have hA : DataW.TrodAll enc Try.prog W 0 (fun _ => true) true Try.f7.params.toList args.toList ds p := hA0
  rw [Try.params7] at hA hval
  obtain ⟨v0, vs0, d0, ds0, p0, q0, hargs, rfl, rfl, h0, r0⟩ := trodAll_cons hA
  obtain ⟨v1, vs1, d1, ds1, p1, q1, rfl, rfl, rfl, h1, r1⟩ := trodAll_cons r0
  obtain ⟨rfl, rfl, rfl⟩ := trodAll_nil r1
  obtain rfl : args = #[v0, v1] := by cases args; simp_all
  obtain ⟨rfl, rfl⟩ := trodVars_none hV
  obtain ⟨a0, rfl, rfl, rfl, w0⟩ := open_int Try.underlying3 (hval 0 3 v0 rfl rfl) h0
  obtain ⟨a1, len1, cap1, rfl⟩ := okWide_slice Try.underlying56 (hval 1 56 v1 rfl rfl)
  have k1 := h1
  have lt1 : ∀ x ∈ p1, x.block < W.heap.size := by obtain ⟨m, hm⟩ := k1; exact DataW.trod_lt m _ _ _ hm
  have w1 : CrashOps W a1 len1 := by
    obtain ⟨fuel, hf⟩ := h1
    exact crash_open hf
  clear hA0 hval0
  refine (walk a0 a1 len1 cap1 W w0 w1).mono fun e W' ⟨he, bel⟩ => ?_
  subst he
  exact ⟨_, rfl, _, _, _, [], _, [], hW', trodAll_mk1 (shut_bool Try.underlying4 _), (trodAll_cons_mk (shut_int Try.underlying3 w0) (trodAll_cons_mk (Below.trod laidOut (by kernel_rfl) (of_decide_eq_true (by kernel_rfl)) k1 bel lt1) trodAll_mk0)), rfl, bel.frame _, fun h => by cases h⟩

theorem over : Rows.journalCrashesRow.holds Try.pinned (OpenSpec.ofChange Rows.journalCrashesSpec) :=
  OpenClaim.holds_of_wide 7 Try.f7 rfl rfl rfl rfl rfl rfl rfl ⟨rfl, rfl, rfl, rfl, rfl⟩ rfl rfl rfl rfl rfl (by kernel_rfl) Try.func7 (by kernel_rfl)
    (of_decide_eq_true (by kernel_rfl)) (by unfold Func.isWrapper; first | (rw [if_pos (by decide +kernel)]; kernel_rfl) | (rw [if_neg (by decide +kernel)]; exact ⟨rfl, rfl⟩))
    (fun os started H enc _ => lifted os started H enc)

theorem proved : Rows.JournalCrashesSaid := over
#print axioms proved
end Go.Proofs.Ytpmlmjbhgonegaa.journalCrashes
