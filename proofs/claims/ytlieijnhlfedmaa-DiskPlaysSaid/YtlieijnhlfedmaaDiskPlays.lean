/- DiskPlays: a disk does any calls as the document says: any size, any calls (no condition). -/
import Derived.Test.YtlieijnhlfedmaaRows
import Derived.Test.YtlieijnhlfedmaaPlay
import Derived.ShutString
import Derived.ChangeOld
import Derived.Deep.CutBlock
namespace Go.Proofs.Ytlieijnhlfedmaa.diskPlays
open Go.ChangeShapes Go.WideShapes Go.ChangeAt Go.RowKit
open Go.ChangeMaps (open_string shut_string)
set_option linter.unusedVariables false

theorem own : ownKnob Try.prog.godebug = none := by kernel_rfl
theorem laidOut : laidOutB Try.prog = true := by kernel_rfl

/-- Bounds of a disk behind so many calls. -/
structure Lim (k : Nat) (D : DK) : Prop where
  lo : 0 ≤ D.writes
  hi : D.writes ≤ k
  fuse : D.fuse ≤ 9223372036854775807
theorem Lim.mono {k k' : Nat} {D : DK} (h : Lim k D) (hk : k ≤ k') : Lim k' D := ⟨h.lo, by have := h.hi; omega, h.fuse⟩
theorem Lim.fine {k : Nat} {D : DK} (h : Lim k D) (hk : k < 9223372036854775807) : D.fine := ⟨h.fuse, h.lo, by have := h.hi; omega⟩
theorem Lim.write {k : Nat} {D : DK} (h : Lim k D) (i : Int) (l : List UInt8) : Lim (k + 1) (D.write i l).1 := by
  have h1 := h.lo; have h2 := h.hi; have h3 := h.fuse
  unfold DK.write
  split
  · exact h.mono (by omega)
  · split
    · exact h.mono (by omega)
    · split
      · exact ⟨h1, by show D.writes ≤ ((k + 1 : Nat) : Int); omega, by show (-1 : Int) ≤ 9223372036854775807; omega⟩
      · refine ⟨by show 0 ≤ D.writes + 1; omega, by show D.writes + 1 ≤ ((k + 1 : Nat) : Int); omega, ?_⟩
        show (if 0 < D.fuse then D.fuse - 1 else D.fuse) ≤ 9223372036854775807
        split <;> omega
theorem Lim.fused {k : Nat} {D : DK} (h : Lim k D) (i : Int) (hi : I64 i) : Lim (k + 1) (D.fused i) := by
  obtain ⟨h4, h5⟩ := hi
  unfold DK.fused
  split
  · exact h.mono (by omega)
  · refine ⟨h.lo, by have := h.hi; show D.writes ≤ ((k + 1 : Nat) : Int); omega, ?_⟩
    show (if i < -1 then -1 else i) ≤ 9223372036854775807
    split <;> omega
theorem Lim.booted {k : Nat} {D : DK} (h : Lim k D) : Lim (k + 1) D.booted := ⟨h.lo, by have := h.hi; show D.writes ≤ ((k + 1 : Nat) : Int); omega, by show (-1 : Int) ≤ 9223372036854775807; omega⟩
theorem BAt.set {w : World} {nb : Nat} {l : List UInt8} (h : BAt w nb l) (j : Nat) (x : UInt8) : BAt (w.setCell ⟨nb, j, none⟩ (bv x)) nb (l.set j x) := by
  obtain ⟨t, h⟩ := h
  exact ⟨t, by rw [heap_setCell_same w nb j _ _ _ h, bvs_set]⟩
theorem BAt.row {w : World} {nb : Nat} {l : List UInt8} (h : BAt w nb l) : RowAt w ⟨nb, 0, none⟩ l := by
  obtain ⟨t, h⟩ := h
  exact .of_cells h
theorem BAt.keep {w w' : World} {nb : Nat} {l : List UInt8} {S : Nat → Prop} (h : BAt w nb l) (k : Only S w w') (hs : ¬ S nb) : BAt w' nb l := by
  obtain ⟨t, h⟩ := h
  exact ⟨t, k.keeps h hs⟩
theorem BAt.lt {w : World} {nb : Nat} {l : List UInt8} (h : BAt w nb l) : nb < w.heap.size := by
  obtain ⟨t, h⟩ := h
  exact lt_of_heap h

section
variable {B : Nat} {w0 w w' : World} {nb px rx py qy pz rz pw qw : Nat} {X Y Z W : DK}
theorem _root_.Go.Proofs.Ytlieijnhlfedmaa.Play.clonex2 (h : Play B w0 w nb px rx py qy pz rz pw qw X Y Z W) (k : Only (fun _ => False) w w') {p r : Nat} (hd : DiskAt w' p r X) (hp : w.heap.size ≤ p) (hr : w.heap.size ≤ r) : Play B w0 w' w'.heap.size p r py qy px rx pw qw X Y X W := by
  have h1 := (h.same k).fresh _ (Nat.le_refl _)
  obtain ⟨f1, f2, f3, f4, f5, f6, f7, f8⟩ := h.lts
  obtain ⟨g1, g2, g3, g4, g5, g6, g7, g8⟩ := h1.far
  have hB := h.x.hB
  have hx : DSt B w0 w' p r X := ⟨hd, h1.x.below, by omega, by omega, h1.x.hB⟩
  obtain ⟨es, c, hm⟩ := hx.map_at
  have l1 := lt_of_heap hd.cells
  have l2 := lt_of_heap hm
  exact { h1 with x := hx, z := h1.x, pxz := by omega, rxz := by omega, far := ⟨by omega, by omega, g3, g4, g1, g2, g7, g8⟩ }
theorem _root_.Go.Proofs.Ytlieijnhlfedmaa.Play.cloney2 (h : Play B w0 w nb px rx py qy pz rz pw qw X Y Z W) (k : Only (fun _ => False) w w') {n p q c : Nat} {l : Int} (hd : RefAt n w' p q c l Y) (hp : w.heap.size ≤ p) (hq : w.heap.size ≤ q) : Play B w0 w' w'.heap.size px rx p q pz rz py qy X Y Z Y := by
  have h1 := (h.same k).fresh _ (Nat.le_refl _)
  have hB := h.x.hB
  obtain ⟨f1, f2, f3, f4, f5, f6, f7, f8⟩ := h.lts
  obtain ⟨g1, g2, g3, g4, g5, g6, g7, g8⟩ := h1.far
  obtain ⟨cs1, hq1, _⟩ := hd.row
  have l1 := lt_of_heap hd.cells
  have l2 := lt_of_heap hq1
  exact { h1 with y := ⟨c, l, hd.fresh _ (Nat.le_refl _)⟩, v := h1.y, hpy := by omega, hqy := by omega, hpw := h.hpy, hqw := h.hqy, pyw := by omega, qyw := by omega, far := ⟨g1, g2, by omega, by omega, g5, g6, g3, g4⟩ }
end

set_option maxRecDepth 100000 in
set_option maxHeartbeats 16000000 in
theorem walk (a0 : Int) (A : Option Addr) (len cap : Nat) (w : World) (w1_ : OpsAt w A len) :
    Calls Try.prog 7 #[.int .i64 a0, .slice A len cap] w fun e w' => e = .returned (.bool true) ∧ Below w.heap.size w w' := by
  have hlen := w1_.1
  have W0 := Lib.hid w1_
  clear w1_
  go_enter Try.func7, Try.ntmps7
  go_wp2_with fail
  refine (shown_calls w).mono ?_
  rintro e w1 ⟨rfl, hb⟩
  have HB := Lib.hid hb
  clear hb
  go_wp2_with fail
  by_cases hN : 1 ≤ a0 ∧ a0 ≤ 4096
  · obtain ⟨n, rfl⟩ := Int.eq_ofNat_of_zero_le (show 0 ≤ a0 by omega)
    refine (new_st w.heap.size w w1 n (by omega) (by omega) HB.out.size HB.out).mono ?_
    rintro e w2 ⟨px, rx, rfl, s2, o2, hpx, hrx⟩
    have S2 := Lib.hid s2
    clear s2 o2
    go_wp2_with fail
    refine (refNew_calls w2 n (by omega) (by omega)).mono ?_
    rintro e w3 ⟨rfl, r3, o3⟩
    have R3 := Lib.hid r3
    have S3 := Lib.hid (S2.out.same o3)
    have L2 := Lib.hid (lt_of_heap S2.out.disk.cells)
    have M2 := Lib.hid S2.out.map_at
    have B2 := Lib.hid S2.out.hB
    have SZ := Lib.hid o3.size
    clear r3 o3
    go_wp2_with fail
    refine (clone_calls w3 px rx _ S3.out.disk).mono ?_
    rintro e w4 ⟨rfl, d4, o4⟩
    have S4 := Lib.hid (S3.out.same o4)
    have D4 := Lib.hid d4
    have O4 := Lib.hid o4
    have R4 := Lib.hid (R3.out.only o4 (fun b e => e.elim) (fun e => e) (fun e => e))
    clear d4 o4
    go_wp2_with fail
    refine (refClone_calls w4 (w2.heap.size + 1) w2.heap.size n 0 _ R4.out).mono ?_
    rintro e w5 ⟨pw, qw, cw, rfl, r5, o5, hpw, hqw⟩
    have hl3 : px < w3.heap.size ∧ rx < w3.heap.size := by
      obtain ⟨es, c, hm⟩ := S3.out.map_at
      exact ⟨lt_of_heap S3.out.disk.cells, lt_of_heap hm⟩
    have hl4 : w2.heap.size + 1 < w4.heap.size ∧ w2.heap.size < w4.heap.size := by
      obtain ⟨cs, hm, -⟩ := R4.out.row
      exact ⟨lt_of_heap R4.out.cells, lt_of_heap hm⟩
    have hl2 : px < w2.heap.size ∧ rx < w2.heap.size := by
      obtain ⟨es, c, hm⟩ := M2.out
      exact ⟨L2.out, lt_of_heap hm⟩
    have hlz : w3.heap.size < w4.heap.size ∧ w3.heap.size + 1 < w4.heap.size := by
      obtain ⟨es, c, hm, _⟩ := D4.out.map
      exact ⟨lt_of_heap D4.out.cells, lt_of_heap hm⟩
    have hB := B2.out
    have hZ := SZ.out
    have P0 : Play w.heap.size w w5 (w5.heap.size) px rx (w2.heap.size + 1) w2.heap.size w3.heap.size (w3.heap.size + 1) pw qw ⟨n, false, -1, 0, fun _ => none⟩ ⟨n, false, -1, 0, fun _ => none⟩ ⟨n, false, -1, 0, fun _ => none⟩ ⟨n, false, -1, 0, fun _ => none⟩ := by
      have hz := o5.size
      have l5 : pw < w5.heap.size ∧ qw < w5.heap.size := by
        obtain ⟨cs, hm, -⟩ := r5.row
        exact ⟨lt_of_heap r5.cells, lt_of_heap hm⟩
      have hx := S4.out.same o5
      have hz2 : DSt w.heap.size w w5 w3.heap.size (w3.heap.size + 1) ⟨n, false, -1, 0, fun _ => none⟩ := ⟨D4.out.only o5 (fun e => e) (fun e => e), hx.below, by omega, by omega, hx.hB⟩
      have hy2 : ∃ cap left, RefAt w5.heap.size w5 (w2.heap.size + 1) w2.heap.size cap left ⟨n, false, -1, 0, fun _ => none⟩ := ⟨n, 0, (R4.out.only o5 (fun b e => e.elim) (fun e => e) (fun e => e)).fresh _ (Nat.le_refl _)⟩
      have hv2 : ∃ cap left, RefAt w5.heap.size w5 pw qw cap left ⟨n, false, -1, 0, fun _ => none⟩ := ⟨cw, 0, r5.fresh _ (Nat.le_refl _)⟩
      refine ⟨hx, hz2, hy2, hv2, ?_, ?_, ?_, ?_, ?_, ?_, ?_, ?_, ?_, ?_, ?_, ?_, ?_, ?_, ?_, ?_⟩ <;> omega
    have PP := Lib.hid P0
    have L0 : Lim 0 ⟨n, false, -1, 0, fun _ => none⟩ := ⟨Int.le_refl _, Int.le_refl _, by show (-1 : Int) ≤ 9223372036854775807; omega⟩
    have LL := Lib.hid L0
    clear P0 L0 hB hZ hl3 hl4 hl2 hlz hpw hqw r5 o5 S2 R3 S3 L2 M2 B2 SZ S4 D4 O4 R4 HB
    generalize (w2.heap.size + 1) = py0 at *
    generalize w2.heap.size = qy0 at *
    generalize (w3.heap.size + 1) = rz0 at *
    generalize w3.heap.size = pz0 at *
    generalize (⟨n, false, -1, 0, fun _ => none⟩ : DK) = D0 at *
    go_wp2_with fail
    go_loopw [6, 8, 10, 11, 12] (fun v6 v8 v10 v11 v12 wr => ∃ (k px rx py qy pz rz pw qw nb : Nat) (X Z : DK), k ≤ len ∧ v6 = .pointer (some ⟨px, 0, none⟩) ∧ v8 = .pointer (some ⟨py, 0, none⟩) ∧ v10 = .pointer (some ⟨pz, 0, none⟩) ∧ v11 = .pointer (some ⟨pw, 0, none⟩) ∧ v12 = .int .i64 k ∧ Play w.heap.size w wr nb px rx py qy pz rz pw qw X X Z Z ∧ Lim k X ∧ Lim k Z) (fun _ _ _ _ v12 _ => len - (intOf v12).toNat)
    case atStart => exact ⟨0, px, rx, py0, qy0, pz0, rz0, pw, qw, _, D0, D0, Nat.zero_le _, rfl, rfl, rfl, rfl, rfl, PP.out, LL.out, LL.out⟩
    case round =>
      clear PP LL
      obtain ⟨k, px, rx, py, qy, pz, rz, pw, qw, nb, X, Z, hkl, rfl, rfl, rfl, rfl, rfl, hp, hlx, hlz⟩ := hrel
      have HP := Lib.hid hp
      have HLX0 := Lib.hid hlx
      have HLZ := Lib.hid hlz
      clear hp hlx hlz
      by_cases hgo : k < len
      · obtain ⟨x, kd, at_, nn, c, rfl, hxl, hc0, hc1, hc2, hc3, hk0, hk1, hk2⟩ := W0.out.2 k hgo
        have hkz : (k : Int) < (len : Int) := by omega
        have hbel := HP.out.x.below
        have g0 := (hbel.cell (p := x.add (k * 4)) (by simp only [add_block]; exact hxl)).trans hc0
        have g1 := (hbel.cell (p := ⟨(x.add (k * 4)).block, (x.add (k * 4)).off + 1, none⟩) (by simp only [add_block]; exact hxl)).trans hc1
        have g2 := (hbel.cell (p := ⟨(x.add (k * 4)).block, (x.add (k * 4)).off + 2, none⟩) (by simp only [add_block]; exact hxl)).trans hc2
        have g3 := (hbel.cell (p := ⟨(x.add (k * 4)).block, (x.add (k * 4)).off + 3, none⟩) (by simp only [add_block]; exact hxl)).trans hc3
        unfold bv at g3
        clear hbel hc0 hc1 hc2 hc3
        go_upto_region 16 with (fail)
        have hob := HP.out.lts
        have ho5 := heap_alloc_new wr (.cells #[.int .i64 kd, .int .i64 at_, .int .i64 nn, .int .u8 (c.toNat : Int)] 39)
        have hp5 := HP.out.same ((Only.refl (fun _ => False) wr).alloc (.cells #[.int .i64 kd, .int .i64 at_, .int .i64 nn, .int .u8 (c.toNat : Int)] 39))
        clear g0 g1 g2 g3
        generalize wr.alloc (.cells #[.int .i64 kd, .int .i64 at_, .int .i64 nn, .int .u8 (c.toNat : Int)] 39) = w5 at *
        generalize wr.heap.size = ob at *
        have HOB := Lib.hid hob
        have HO5 := Lib.hid ho5
        have HP5 := Lib.hid hp5
        have HKB : Hid (k < 9223372036854775807) := Lib.hid (by omega)
        clear hob ho5 hp5 HP
        have hkc := fun w => kind_calls w kd 8 hk0.1 hk0.2 (by omega) (by omega)
        have hkr := kindOf_range kd 8 (by omega)
        generalize kindOf kd 8 = mI at *
        obtain ⟨m, rfl⟩ := Int.eq_ofNat_of_zero_le hkr.1
        have hm8 : m < 8 := by omega
        have HK := Lib.hid hkc
        have hkc2 := fun w => kind_calls w nn 71 hk2.1 hk2.2 (by omega) (by omega)
        have hkr2 := kindOf_range nn 71 (by omega)
        generalize kindOf nn 71 = nI at *
        obtain ⟨ln, rfl⟩ := Int.eq_ofNat_of_zero_le hkr2.1
        have HL71 : Hid (ln < 71) := Lib.hid (by omega)
        have HK2 := Lib.hid hkc2
        have HI2 := Lib.hid hk2
        clear hkc hkr hkc2 hkr2 hk0 hk1 hk2

        have ot0 : w5.cell? ⟨ob, 0, none⟩ = some (.int .i64 kd) := (cellOf HO5.out 0).trans rfl
        have ot1 : w5.cell? ⟨ob, 1, none⟩ = some (.int .i64 at_) := (cellOf HO5.out 1).trans rfl
        have ot2 : w5.cell? ⟨ob, 2, none⟩ = some (.int .i64 nn) := (cellOf HO5.out 2).trans rfl
        have ot3 : w5.cell? ⟨ob, 3, none⟩ = some (.int .u8 (c.toNat : Int)) := (cellOf HO5.out 3).trans rfl

        go_wp2_with fail
        refine (HK.out _).mono ?_
        rintro e w6 ⟨rfl, rfl⟩
        go_upto_block 2 with fail
        go_cut [6, 8, 10, 11] (fun v6 v8 v10 v11 wc => ∃ (px rx py qy pz rz pw qw nb : Nat) (X Z : DK), v6 = .pointer (some ⟨px, 0, none⟩) ∧ v8 = .pointer (some ⟨py, 0, none⟩) ∧ v10 = .pointer (some ⟨pz, 0, none⟩) ∧ v11 = .pointer (some ⟨pw, 0, none⟩) ∧ Play w.heap.size w wc nb px rx py qy pz rz pw qw X X Z Z ∧ Lim (k + 1) X ∧ Lim (k + 1) Z ∧ wc.heap[ob]? = some (.cells #[.int .i64 kd, .int .i64 at_, .int .i64 nn, .int .u8 (c.toNat : Int)] 39 (0, 0)))
        case first =>
          rcases (show m = 0 ∨ m = 1 ∨ m = 2 ∨ m = 3 ∨ m = 4 ∨ m = 5 ∨ m = 6 ∨ m = 7 by omega) with rfl | rfl | rfl | rfl | rfl | rfl | rfl | rfl
          · go_wp2_with fail
            refine (full_calls w5 c).mono ?_
            rintro e w6 ⟨rfl, hw6⟩
            have hal : Only (fun _ => False) w5 w6 := by rw [hw6]; exact (Only.refl _ _).alloc _
            have hb6 : BAt w6 w5.heap.size (blockOf c) := ⟨_, by rw [hw6]; exact heap_alloc_new _ _⟩
            have hp6 := (HP5.out.fresh w5.heap.size (Nat.le_refl _)).same hal
            have ho6 := hal.keeps HO5.out (fun e => e)
            have hnb : w.heap.size ≤ w5.heap.size ∧ ob < w5.heap.size := ⟨HP5.out.x.hB, lt_of_heap HO5.out⟩
            clear hw6 hal ot0 ot1 ot2 ot3
            generalize w5.heap.size = nb at *
            have HB6 := Lib.hid hb6
            have HP6 := Lib.hid hp6
            have HO6 := Lib.hid ho6
            have HNB := Lib.hid hnb
            clear hb6 hp6 ho6 hnb HP5 HO5

            have ot0 : w6.cell? ⟨ob, 0, none⟩ = some (.int .i64 kd) := (cellOf HO6.out 0).trans rfl
            have ot1 : w6.cell? ⟨ob, 1, none⟩ = some (.int .i64 at_) := (cellOf HO6.out 1).trans rfl
            have ot2 : w6.cell? ⟨ob, 2, none⟩ = some (.int .i64 nn) := (cellOf HO6.out 2).trans rfl
            have ot3 : w6.cell? ⟨ob, 3, none⟩ = some (.int .u8 (c.toNat : Int)) := (cellOf HO6.out 3).trans rfl

            go_wp2_with fail
            refine (HK.out _).mono ?_
            rintro e w7 ⟨rfl, rfl⟩
            go_wp2_with fail

            obtain ⟨bl, hbl⟩ : ∃ l, l = blockOf c := ⟨_, rfl⟩
            rw [← hbl] at HB6
            have HLN : Hid (bl.length = 64) := Lib.hid (by rw [hbl]; exact blockOf_length c)
            clear hbl

            have HS6 := Lib.hid (SliceAt.of_row (BAt.row HB6.out))
            refine (write_st HP6.out.x at_ _ bl 64 64 HLN.out HS6.out (HLX0.out.fine HKB.out)).mono ?_
            rintro e w7 ⟨rfl, s7, o7⟩
            have hp7 := HP6.out.nextx o7 s7
            have hnot7 : ¬ Two px rx nb := by have := HP6.out.far; rintro (e | e) <;> omega
            have hb7 := BAt.keep HB6.out o7 hnot7
            have ho7 := o7.keeps HO6.out (by have := HOB.out; rintro (e | e) <;> omega)
            have HP7 := Lib.hid hp7
            have HB7 := Lib.hid hb7
            have HO7 := Lib.hid ho7
            clear hp7 hb7 ho7 s7 o7 hnot7 ot0 ot1 ot2 ot3

            have ot0 : w7.cell? ⟨ob, 0, none⟩ = some (.int .i64 kd) := (cellOf HO7.out 0).trans rfl
            have ot1 : w7.cell? ⟨ob, 1, none⟩ = some (.int .i64 at_) := (cellOf HO7.out 1).trans rfl
            have ot2 : w7.cell? ⟨ob, 2, none⟩ = some (.int .i64 nn) := (cellOf HO7.out 2).trans rfl
            have ot3 : w7.cell? ⟨ob, 3, none⟩ = some (.int .u8 (c.toNat : Int)) := (cellOf HO7.out 3).trans rfl

            go_wp2_with fail
            obtain ⟨cy, ly, hy7⟩ := HP7.out.y
            refine (refWrite_calls w7 py qy cy ly X at_ _ bl 64 64 HLN.out hy7 (BAt.lt HB7.out) (SliceAt.of_row (BAt.row HB7.out)) (HLX0.out.fine HKB.out)).mono ?_
            rintro e w8 ⟨rfl, ⟨l8, r8⟩, o8⟩
            have hp8 := HP7.out.nexty o8 ⟨cy, l8, r8⟩
            have hnot8 : ¬ Two py qy nb := by have := HP7.out.far; rintro (e | e) <;> omega
            have hb8 := BAt.keep HB7.out o8 hnot8
            have ho8 := o8.keeps HO7.out (by have := HOB.out; rintro (e | e) <;> omega)
            have HP8 := Lib.hid hp8
            have HB8 := Lib.hid hb8
            have HO8 := Lib.hid ho8
            have HLX := Lib.hid (HLX0.out.write at_ bl)
            clear hp8 hb8 ho8 r8 o8 hnot8 hy7 ot0 ot1 ot2 ot3 HP7 HB7 HO7 HP6 HB6 HO6 HS6
            generalize (X.write at_ bl).1 = XX at *
            generalize (X.write at_ bl).2 = code at *
            go_wp2_with fail

            go_loopw [17] (fun i wq => ∃ (j : Nat) (l' : List UInt8), j ≤ 64 ∧ l'.length = 64 ∧ i = .int .i64 j ∧ Play w.heap.size w wq nb px rx py qy pz rz pw qw XX XX Z Z ∧ BAt wq nb l' ∧ wq.heap[ob]? = some (.cells #[.int .i64 kd, .int .i64 at_, .int .i64 nn, .int .u8 (c.toNat : Int)] 39 (0, 0))) (fun i _ => 64 - (intOf i).toNat)
            case atStart => exact ⟨0, bl, Nat.zero_le _, HLN.out, rfl, HP8.out, HB8.out, HO8.out⟩
            case round =>
              obtain ⟨j, l', hj, hl', rfl, hp, hb, ho⟩ := hrel
              by_cases hjl : j < 64
              · have hjz : (j : Int) < 64 := by omega
                have hl71 := HL71.out
                have hbc : wr.cell? ⟨nb, j, none⟩ = some (bv (l'.getD j 0)) := by
                  obtain ⟨t, h⟩ := hb
                  exact bvs_cell h (by omega)
                have hbf : wr.frozen? ⟨nb, j, none⟩ = false := by
                  obtain ⟨t, h⟩ := hb
                  exact freeOf h j
                have HP9 := Lib.hid (hp.put (by have := HNB.out; omega) j (bv 98))
                have HB9 := Lib.hid (BAt.set hb j 98)
                have HO9 := Lib.hid (((Only.refl (· = nb) wr).put j (bv 98)).keeps ho (fun e => by have := HNB.out; omega))
                clear hp hb ho
                unfold bv at HP9 HB9 HO9 hbc
                go_wp2_with fail
                go_roundw
                case rel => exact ⟨j + 1, l'.set j 98, by omega, by rw [List.length_set]; exact hl', by go_num, HP9.out, HB9.out, HO9.out⟩
                case measure => simp [intOf]; omega
              · have hjz : ¬ (j : Int) < 64 := by omega
                have HPF := Lib.hid hp
                have HOF := Lib.hid ho
                clear hp hb ho
                go_wp2_with fail
                go_meet
                case rel => exact ⟨px, rx, py, qy, pz, rz, pw, qw, nb, XX, Z, rfl, rfl, rfl, rfl, HPF.out, HLX.out, HLZ.out.mono (by omega), HOF.out⟩
          · go_wp2_with fail
            refine (full_calls w5 c).mono ?_
            rintro e w6 ⟨rfl, hw6⟩
            have hal : Only (fun _ => False) w5 w6 := by rw [hw6]; exact (Only.refl _ _).alloc _
            have hb6 : BAt w6 w5.heap.size (blockOf c) := ⟨_, by rw [hw6]; exact heap_alloc_new _ _⟩
            have hp6 := (HP5.out.fresh w5.heap.size (Nat.le_refl _)).same hal
            have ho6 := hal.keeps HO5.out (fun e => e)
            have hnb : w.heap.size ≤ w5.heap.size ∧ ob < w5.heap.size := ⟨HP5.out.x.hB, lt_of_heap HO5.out⟩
            clear hw6 hal ot0 ot1 ot2 ot3
            generalize w5.heap.size = nb at *
            have HB6 := Lib.hid hb6
            have HP6 := Lib.hid hp6
            have HO6 := Lib.hid ho6
            have HNB := Lib.hid hnb
            clear hb6 hp6 ho6 hnb HP5 HO5

            have ot0 : w6.cell? ⟨ob, 0, none⟩ = some (.int .i64 kd) := (cellOf HO6.out 0).trans rfl
            have ot1 : w6.cell? ⟨ob, 1, none⟩ = some (.int .i64 at_) := (cellOf HO6.out 1).trans rfl
            have ot2 : w6.cell? ⟨ob, 2, none⟩ = some (.int .i64 nn) := (cellOf HO6.out 2).trans rfl
            have ot3 : w6.cell? ⟨ob, 3, none⟩ = some (.int .u8 (c.toNat : Int)) := (cellOf HO6.out 3).trans rfl

            go_wp2_with fail
            refine (HK.out _).mono ?_
            rintro e w7 ⟨rfl, rfl⟩
            go_wp2_with fail

            obtain ⟨bl, hbl⟩ : ∃ l, l = blockOf c := ⟨_, rfl⟩
            rw [← hbl] at HB6
            have HLN : Hid (bl.length = 64) := Lib.hid (by rw [hbl]; exact blockOf_length c)
            clear hbl

            have HS6 := Lib.hid (SliceAt.of_row (BAt.row HB6.out))
            refine (write_st HP6.out.x at_ _ bl 64 64 HLN.out HS6.out (HLX0.out.fine HKB.out)).mono ?_
            rintro e w7 ⟨rfl, s7, o7⟩
            have hp7 := HP6.out.nextx o7 s7
            have hnot7 : ¬ Two px rx nb := by have := HP6.out.far; rintro (e | e) <;> omega
            have hb7 := BAt.keep HB6.out o7 hnot7
            have ho7 := o7.keeps HO6.out (by have := HOB.out; rintro (e | e) <;> omega)
            have HP7 := Lib.hid hp7
            have HB7 := Lib.hid hb7
            have HO7 := Lib.hid ho7
            clear hp7 hb7 ho7 s7 o7 hnot7 ot0 ot1 ot2 ot3

            have ot0 : w7.cell? ⟨ob, 0, none⟩ = some (.int .i64 kd) := (cellOf HO7.out 0).trans rfl
            have ot1 : w7.cell? ⟨ob, 1, none⟩ = some (.int .i64 at_) := (cellOf HO7.out 1).trans rfl
            have ot2 : w7.cell? ⟨ob, 2, none⟩ = some (.int .i64 nn) := (cellOf HO7.out 2).trans rfl
            have ot3 : w7.cell? ⟨ob, 3, none⟩ = some (.int .u8 (c.toNat : Int)) := (cellOf HO7.out 3).trans rfl

            go_wp2_with fail
            obtain ⟨cy, ly, hy7⟩ := HP7.out.y
            refine (refWrite_calls w7 py qy cy ly X at_ _ bl 64 64 HLN.out hy7 (BAt.lt HB7.out) (SliceAt.of_row (BAt.row HB7.out)) (HLX0.out.fine HKB.out)).mono ?_
            rintro e w8 ⟨rfl, ⟨l8, r8⟩, o8⟩
            have hp8 := HP7.out.nexty o8 ⟨cy, l8, r8⟩
            have hnot8 : ¬ Two py qy nb := by have := HP7.out.far; rintro (e | e) <;> omega
            have hb8 := BAt.keep HB7.out o8 hnot8
            have ho8 := o8.keeps HO7.out (by have := HOB.out; rintro (e | e) <;> omega)
            have HP8 := Lib.hid hp8
            have HB8 := Lib.hid hb8
            have HO8 := Lib.hid ho8
            have HLX := Lib.hid (HLX0.out.write at_ bl)
            clear hp8 hb8 ho8 r8 o8 hnot8 hy7 ot0 ot1 ot2 ot3 HP7 HB7 HO7 HP6 HB6 HO6 HS6
            generalize (X.write at_ bl).1 = XX at *
            generalize (X.write at_ bl).2 = code at *
            go_wp2_with fail

            go_loopw [17] (fun i wq => ∃ (j : Nat) (l' : List UInt8), j ≤ 64 ∧ l'.length = 64 ∧ i = .int .i64 j ∧ Play w.heap.size w wq nb px rx py qy pz rz pw qw XX XX Z Z ∧ BAt wq nb l' ∧ wq.heap[ob]? = some (.cells #[.int .i64 kd, .int .i64 at_, .int .i64 nn, .int .u8 (c.toNat : Int)] 39 (0, 0))) (fun i _ => 64 - (intOf i).toNat)
            case atStart => exact ⟨0, bl, Nat.zero_le _, HLN.out, rfl, HP8.out, HB8.out, HO8.out⟩
            case round =>
              obtain ⟨j, l', hj, hl', rfl, hp, hb, ho⟩ := hrel
              by_cases hjl : j < 64
              · have hjz : (j : Int) < 64 := by omega
                have hl71 := HL71.out
                have hbc : wr.cell? ⟨nb, j, none⟩ = some (bv (l'.getD j 0)) := by
                  obtain ⟨t, h⟩ := hb
                  exact bvs_cell h (by omega)
                have hbf : wr.frozen? ⟨nb, j, none⟩ = false := by
                  obtain ⟨t, h⟩ := hb
                  exact freeOf h j
                have HP9 := Lib.hid (hp.put (by have := HNB.out; omega) j (bv 98))
                have HB9 := Lib.hid (BAt.set hb j 98)
                have HO9 := Lib.hid (((Only.refl (· = nb) wr).put j (bv 98)).keeps ho (fun e => by have := HNB.out; omega))
                clear hp hb ho
                unfold bv at HP9 HB9 HO9 hbc
                go_wp2_with fail
                go_roundw
                case rel => exact ⟨j + 1, l'.set j 98, by omega, by rw [List.length_set]; exact hl', by go_num, HP9.out, HB9.out, HO9.out⟩
                case measure => simp [intOf]; omega
              · have hjz : ¬ (j : Int) < 64 := by omega
                have HPF := Lib.hid hp
                have HOF := Lib.hid ho
                clear hp hb ho
                go_wp2_with fail
                go_meet
                case rel => exact ⟨px, rx, py, qy, pz, rz, pw, qw, nb, XX, Z, rfl, rfl, rfl, rfl, HPF.out, HLX.out, HLZ.out.mono (by omega), HOF.out⟩
          · go_wp2_with fail
            refine (full_calls w5 c).mono ?_
            rintro e w6 ⟨rfl, hw6⟩
            have hal : Only (fun _ => False) w5 w6 := by rw [hw6]; exact (Only.refl _ _).alloc _
            have hb6 : BAt w6 w5.heap.size (blockOf c) := ⟨_, by rw [hw6]; exact heap_alloc_new _ _⟩
            have hp6 := (HP5.out.fresh w5.heap.size (Nat.le_refl _)).same hal
            have ho6 := hal.keeps HO5.out (fun e => e)
            have hnb : w.heap.size ≤ w5.heap.size ∧ ob < w5.heap.size := ⟨HP5.out.x.hB, lt_of_heap HO5.out⟩
            clear hw6 hal ot0 ot1 ot2 ot3
            generalize w5.heap.size = nb at *
            have HB6 := Lib.hid hb6
            have HP6 := Lib.hid hp6
            have HO6 := Lib.hid ho6
            have HNB := Lib.hid hnb
            clear hb6 hp6 ho6 hnb HP5 HO5

            have ot0 : w6.cell? ⟨ob, 0, none⟩ = some (.int .i64 kd) := (cellOf HO6.out 0).trans rfl
            have ot1 : w6.cell? ⟨ob, 1, none⟩ = some (.int .i64 at_) := (cellOf HO6.out 1).trans rfl
            have ot2 : w6.cell? ⟨ob, 2, none⟩ = some (.int .i64 nn) := (cellOf HO6.out 2).trans rfl
            have ot3 : w6.cell? ⟨ob, 3, none⟩ = some (.int .u8 (c.toNat : Int)) := (cellOf HO6.out 3).trans rfl

            go_wp2_with fail
            refine (HK.out _).mono ?_
            rintro e w7 ⟨rfl, rfl⟩
            go_wp2_with fail

            obtain ⟨bl, hbl⟩ : ∃ l, l = blockOf c := ⟨_, rfl⟩
            rw [← hbl] at HB6
            have HLN : Hid (bl.length = 64) := Lib.hid (by rw [hbl]; exact blockOf_length c)
            clear hbl

            have HS6 := Lib.hid (SliceAt.of_row (BAt.row HB6.out))
            refine (write_st HP6.out.x at_ _ bl 64 64 HLN.out HS6.out (HLX0.out.fine HKB.out)).mono ?_
            rintro e w7 ⟨rfl, s7, o7⟩
            have hp7 := HP6.out.nextx o7 s7
            have hnot7 : ¬ Two px rx nb := by have := HP6.out.far; rintro (e | e) <;> omega
            have hb7 := BAt.keep HB6.out o7 hnot7
            have ho7 := o7.keeps HO6.out (by have := HOB.out; rintro (e | e) <;> omega)
            have HP7 := Lib.hid hp7
            have HB7 := Lib.hid hb7
            have HO7 := Lib.hid ho7
            clear hp7 hb7 ho7 s7 o7 hnot7 ot0 ot1 ot2 ot3

            have ot0 : w7.cell? ⟨ob, 0, none⟩ = some (.int .i64 kd) := (cellOf HO7.out 0).trans rfl
            have ot1 : w7.cell? ⟨ob, 1, none⟩ = some (.int .i64 at_) := (cellOf HO7.out 1).trans rfl
            have ot2 : w7.cell? ⟨ob, 2, none⟩ = some (.int .i64 nn) := (cellOf HO7.out 2).trans rfl
            have ot3 : w7.cell? ⟨ob, 3, none⟩ = some (.int .u8 (c.toNat : Int)) := (cellOf HO7.out 3).trans rfl

            go_wp2_with fail
            obtain ⟨cy, ly, hy7⟩ := HP7.out.y
            refine (refWrite_calls w7 py qy cy ly X at_ _ bl 64 64 HLN.out hy7 (BAt.lt HB7.out) (SliceAt.of_row (BAt.row HB7.out)) (HLX0.out.fine HKB.out)).mono ?_
            rintro e w8 ⟨rfl, ⟨l8, r8⟩, o8⟩
            have hp8 := HP7.out.nexty o8 ⟨cy, l8, r8⟩
            have hnot8 : ¬ Two py qy nb := by have := HP7.out.far; rintro (e | e) <;> omega
            have hb8 := BAt.keep HB7.out o8 hnot8
            have ho8 := o8.keeps HO7.out (by have := HOB.out; rintro (e | e) <;> omega)
            have HP8 := Lib.hid hp8
            have HB8 := Lib.hid hb8
            have HO8 := Lib.hid ho8
            have HLX := Lib.hid (HLX0.out.write at_ bl)
            clear hp8 hb8 ho8 r8 o8 hnot8 hy7 ot0 ot1 ot2 ot3 HP7 HB7 HO7 HP6 HB6 HO6 HS6
            generalize (X.write at_ bl).1 = XX at *
            generalize (X.write at_ bl).2 = code at *
            go_wp2_with fail

            go_loopw [17] (fun i wq => ∃ (j : Nat) (l' : List UInt8), j ≤ 64 ∧ l'.length = 64 ∧ i = .int .i64 j ∧ Play w.heap.size w wq nb px rx py qy pz rz pw qw XX XX Z Z ∧ BAt wq nb l' ∧ wq.heap[ob]? = some (.cells #[.int .i64 kd, .int .i64 at_, .int .i64 nn, .int .u8 (c.toNat : Int)] 39 (0, 0))) (fun i _ => 64 - (intOf i).toNat)
            case atStart => exact ⟨0, bl, Nat.zero_le _, HLN.out, rfl, HP8.out, HB8.out, HO8.out⟩
            case round =>
              obtain ⟨j, l', hj, hl', rfl, hp, hb, ho⟩ := hrel
              by_cases hjl : j < 64
              · have hjz : (j : Int) < 64 := by omega
                have hl71 := HL71.out
                have hbc : wr.cell? ⟨nb, j, none⟩ = some (bv (l'.getD j 0)) := by
                  obtain ⟨t, h⟩ := hb
                  exact bvs_cell h (by omega)
                have hbf : wr.frozen? ⟨nb, j, none⟩ = false := by
                  obtain ⟨t, h⟩ := hb
                  exact freeOf h j
                have HP9 := Lib.hid (hp.put (by have := HNB.out; omega) j (bv 98))
                have HB9 := Lib.hid (BAt.set hb j 98)
                have HO9 := Lib.hid (((Only.refl (· = nb) wr).put j (bv 98)).keeps ho (fun e => by have := HNB.out; omega))
                clear hp hb ho
                unfold bv at HP9 HB9 HO9 hbc
                go_wp2_with fail
                go_roundw
                case rel => exact ⟨j + 1, l'.set j 98, by omega, by rw [List.length_set]; exact hl', by go_num, HP9.out, HB9.out, HO9.out⟩
                case measure => simp [intOf]; omega
              · have hjz : ¬ (j : Int) < 64 := by omega
                have HPF := Lib.hid hp
                have HOF := Lib.hid ho
                clear hp hb ho
                go_wp2_with fail
                go_meet
                case rel => exact ⟨px, rx, py, qy, pz, rz, pw, qw, nb, XX, Z, rfl, rfl, rfl, rfl, HPF.out, HLX.out, HLZ.out.mono (by omega), HOF.out⟩
          · go_wp2_with fail
            by_cases hc : X.code at_ = 0
            · refine (read_calls w5 px rx X at_ HP5.out.x.disk hc).mono ?_
              rintro e w6 ⟨rfl, hw6⟩
              have hlen6 := DK.get_long HP5.out.x.disk at_
              have hal : Only (fun _ => False) w5 w6 := by rw [hw6]; exact (Only.refl _ _).alloc _
              have hb6 : BAt w6 w5.heap.size (X.get at_) := ⟨_, by rw [hw6]; exact heap_alloc_new _ _⟩
              have hp6 := (HP5.out.fresh w5.heap.size (Nat.le_refl _)).same hal
              have ho6 := hal.keeps HO5.out (fun e => e)
              have hnb : w.heap.size ≤ w5.heap.size ∧ ob < w5.heap.size := ⟨HP5.out.x.hB, lt_of_heap HO5.out⟩
              clear hw6 hal ot0 ot1 ot2 ot3 hc
              generalize w5.heap.size = nb at *
              generalize X.get at_ = bl at *
              have HB8 := Lib.hid hb6
              have HP8 := Lib.hid hp6
              have HO8 := Lib.hid ho6
              have HNB := Lib.hid hnb
              have HLN := Lib.hid hlen6
              have HLX := Lib.hid (HLX0.out.mono (show k ≤ k + 1 by omega))
              clear hb6 hp6 ho6 hnb HP5 HO5 hlen6
              go_wp2_with fail
              go_loopw [20] (fun i wq => ∃ (j : Nat) (l' : List UInt8), j ≤ 64 ∧ l'.length = 64 ∧ i = .int .i64 j ∧ Play w.heap.size w wq nb px rx py qy pz rz pw qw X X Z Z ∧ BAt wq nb l' ∧ wq.heap[ob]? = some (.cells #[.int .i64 kd, .int .i64 at_, .int .i64 nn, .int .u8 (c.toNat : Int)] 39 (0, 0))) (fun i _ => 64 - (intOf i).toNat)
              case atStart => exact ⟨0, bl, Nat.zero_le _, HLN.out, rfl, HP8.out, HB8.out, HO8.out⟩
              case round =>
                obtain ⟨j, l', hj, hl', rfl, hp, hb, ho⟩ := hrel
                by_cases hjl : j < 64
                · have hjz : (j : Int) < 64 := by omega
                  have hl71 := HL71.out
                  have hbc : wr.cell? ⟨nb, j, none⟩ = some (bv (l'.getD j 0)) := by
                    obtain ⟨t, h⟩ := hb
                    exact bvs_cell h (by omega)
                  have hbf : wr.frozen? ⟨nb, j, none⟩ = false := by
                    obtain ⟨t, h⟩ := hb
                    exact freeOf h j
                  have HP9 := Lib.hid (hp.put (by have := HNB.out; omega) j (bv 99))
                  have HB9 := Lib.hid (BAt.set hb j 99)
                  have HO9 := Lib.hid (((Only.refl (· = nb) wr).put j (bv 99)).keeps ho (fun e => by have := HNB.out; omega))
                  clear hp hb ho
                  unfold bv at HP9 HB9 HO9 hbc
                  go_wp2_with fail
                  go_roundw
                  case rel => exact ⟨j + 1, l'.set j 99, by omega, by rw [List.length_set]; exact hl', by go_num, HP9.out, HB9.out, HO9.out⟩
                  case measure => simp [intOf]; omega
                · have hjz : ¬ (j : Int) < 64 := by omega
                  have HPF := Lib.hid hp
                  have HOF := Lib.hid ho
                  clear hp hb ho
                  go_wp2_with fail
                  go_meet
                  case rel => exact ⟨px, rx, py, qy, pz, rz, pw, qw, nb, X, Z, rfl, rfl, rfl, rfl, HPF.out, HLX.out, HLZ.out.mono (by omega), HOF.out⟩
            · refine (read_no w5 px rx X at_ HP5.out.x.disk hc).mono ?_
              rintro e w6 ⟨rfl, rfl⟩
              clear ot0 ot1 ot2 ot3 hc
              go_wp2_with fail
              go_loopw [20] (fun i wq => i = .int .i64 0 ∧ wq = w5) (fun i _ => 0)
              case atStart => exact ⟨rfl, rfl⟩
              case round =>
                obtain ⟨rfl, rfl⟩ := hrel
                go_wp2_with fail
                go_meet
                case rel => exact ⟨px, rx, py, qy, pz, rz, pw, qw, _, X, Z, rfl, rfl, rfl, rfl, HP5.out, HLX0.out.mono (by omega), HLZ.out.mono (by omega), HO5.out⟩
          · go_wp2_with fail
            refine (fuse_st HP5.out.x nn).mono ?_
            rintro e w6 ⟨rfl, s6, o6⟩
            have hp6 := HP5.out.nextx o6 s6
            have ho6 := o6.keeps HO5.out (by have := HOB.out; rintro (e | e) <;> omega)
            have HP6 := Lib.hid hp6
            have HO6 := Lib.hid ho6
            clear hp6 ho6 s6 o6 ot0 ot1 ot2 ot3

            have ot0 : w6.cell? ⟨ob, 0, none⟩ = some (.int .i64 kd) := (cellOf HO6.out 0).trans rfl
            have ot1 : w6.cell? ⟨ob, 1, none⟩ = some (.int .i64 at_) := (cellOf HO6.out 1).trans rfl
            have ot2 : w6.cell? ⟨ob, 2, none⟩ = some (.int .i64 nn) := (cellOf HO6.out 2).trans rfl
            have ot3 : w6.cell? ⟨ob, 3, none⟩ = some (.int .u8 (c.toNat : Int)) := (cellOf HO6.out 3).trans rfl

            go_wp2_with fail
            obtain ⟨cy, ly, hy6⟩ := HP6.out.y
            refine (refFuse_calls w6 py qy cy ly X nn hy6).mono ?_
            rintro e w7 ⟨rfl, ⟨l7, r7⟩, o7⟩
            have o7' : Only (Two py qy) w6 w7 := o7.mono (fun _ _ => Or.inl)
            have hp7 := HP6.out.nexty o7' ⟨cy, l7, r7⟩
            have ho7 := o7'.keeps HO6.out (by have := HOB.out; rintro (e | e) <;> omega)
            have HP7 := Lib.hid hp7
            have HO7 := Lib.hid ho7
            clear hp7 ho7 r7 o7 o7' hy6 ot0 ot1 ot2 ot3
            go_wp2_with fail
            go_meet
            case rel => exact ⟨px, rx, py, qy, pz, rz, pw, qw, _, X.fused nn, Z, rfl, rfl, rfl, rfl, HP7.out, HLX0.out.fused nn HI2.out, HLZ.out.mono (by omega), HO7.out⟩
          · go_wp2_with fail
            refine (boot_st HP5.out.x).mono ?_
            rintro e w6 ⟨rfl, s6, o6⟩
            have hp6 := HP5.out.nextx o6 s6
            have ho6 := o6.keeps HO5.out (by have := HOB.out; rintro (e | e) <;> omega)
            have HP6 := Lib.hid hp6
            have HO6 := Lib.hid ho6
            clear hp6 ho6 s6 o6 ot0 ot1 ot2 ot3

            have ot0 : w6.cell? ⟨ob, 0, none⟩ = some (.int .i64 kd) := (cellOf HO6.out 0).trans rfl
            have ot1 : w6.cell? ⟨ob, 1, none⟩ = some (.int .i64 at_) := (cellOf HO6.out 1).trans rfl
            have ot2 : w6.cell? ⟨ob, 2, none⟩ = some (.int .i64 nn) := (cellOf HO6.out 2).trans rfl
            have ot3 : w6.cell? ⟨ob, 3, none⟩ = some (.int .u8 (c.toNat : Int)) := (cellOf HO6.out 3).trans rfl

            go_wp2_with fail
            obtain ⟨cy, ly, hy6⟩ := HP6.out.y
            refine (refBoot_calls w6 py qy cy ly X hy6).mono ?_
            rintro e w7 ⟨rfl, r7, o7⟩
            have o7' : Only (Two py qy) w6 w7 := o7.mono (fun _ _ => Or.inl)
            have hp7 := HP6.out.nexty o7' ⟨cy, ly, r7⟩
            have ho7 := o7'.keeps HO6.out (by have := HOB.out; rintro (e | e) <;> omega)
            have HP7 := Lib.hid hp7
            have HO7 := Lib.hid ho7
            clear hp7 ho7 r7 o7 o7' hy6 ot0 ot1 ot2 ot3
            go_wp2_with fail
            go_meet
            case rel => exact ⟨px, rx, py, qy, pz, rz, pw, qw, _, X.booted, Z, rfl, rfl, rfl, rfl, HP7.out, HLX0.out.booted, HLZ.out.mono (by omega), HO7.out⟩
          · go_wp2_with fail
            refine (clone_calls w5 px rx X HP5.out.x.disk).mono ?_
            rintro e w6 ⟨rfl, d6, o6⟩
            have hp6 := HP5.out.clonex2 o6 d6 (Nat.le_refl _) (Nat.le_succ _)
            have ho6 := o6.keeps HO5.out (fun e => e)
            clear ot0 ot1 ot2 ot3 d6 o6 HP5 HO5
            generalize w5.heap.size + 1 = rn at *
            generalize w5.heap.size = pn at *
            have HP6 := Lib.hid hp6
            have HO6 := Lib.hid ho6
            clear hp6 ho6
            go_wp2_with fail
            obtain ⟨cy, ly, hy6⟩ := HP6.out.y
            refine (refClone_calls w6 py qy cy ly X hy6).mono ?_
            rintro e w7 ⟨pn2, qn2, cn2, rfl, r7, o7, hpn, hqn⟩
            have hp7 := HP6.out.cloney2 o7 r7 hpn hqn
            have ho7 := o7.keeps HO6.out (fun e => e)
            have HP7 := Lib.hid hp7
            have HO7 := Lib.hid ho7
            clear hp7 ho7 r7 o7 hpn hqn hy6 HP6 HO6
            go_wp2_with fail
            go_meet
            case rel => exact ⟨pn, rn, pn2, qn2, px, rx, py, qy, _, X, X, rfl, rfl, rfl, rfl, HP7.out, HLX0.out.mono (by omega), HLX0.out.mono (by omega), HO7.out⟩
          · go_wp2_with fail
            refine (full_calls w5 c).mono ?_
            rintro e w6 ⟨rfl, hw6⟩
            have hal : Only (fun _ => False) w5 w6 := by rw [hw6]; exact (Only.refl _ _).alloc _
            have hb6 : BAt w6 w5.heap.size (blockOf c) := ⟨_, by rw [hw6]; exact heap_alloc_new _ _⟩
            have hp6 := (HP5.out.fresh w5.heap.size (Nat.le_refl _)).same hal
            have ho6 := hal.keeps HO5.out (fun e => e)
            have hnb : w.heap.size ≤ w5.heap.size ∧ ob < w5.heap.size := ⟨HP5.out.x.hB, lt_of_heap HO5.out⟩
            clear hw6 hal ot0 ot1 ot2 ot3
            generalize w5.heap.size = nb at *
            have HB6 := Lib.hid hb6
            have HP6 := Lib.hid hp6
            have HO6 := Lib.hid ho6
            have HNB := Lib.hid hnb
            clear hb6 hp6 ho6 hnb HP5 HO5

            have ot0 : w6.cell? ⟨ob, 0, none⟩ = some (.int .i64 kd) := (cellOf HO6.out 0).trans rfl
            have ot1 : w6.cell? ⟨ob, 1, none⟩ = some (.int .i64 at_) := (cellOf HO6.out 1).trans rfl
            have ot2 : w6.cell? ⟨ob, 2, none⟩ = some (.int .i64 nn) := (cellOf HO6.out 2).trans rfl
            have ot3 : w6.cell? ⟨ob, 3, none⟩ = some (.int .u8 (c.toNat : Int)) := (cellOf HO6.out 3).trans rfl

            go_wp2_with fail
            refine (HK.out _).mono ?_
            rintro e w7 ⟨rfl, rfl⟩
            go_wp2_with fail

            refine (HK2.out _).mono ?_
            rintro e w7 ⟨rfl, rfl⟩
            obtain ⟨bl, hbl⟩ : ∃ l, l = zerosN ln := ⟨_, rfl⟩
            have hmk := fun w => run_make_bytes w ln (by have := HL71.out; omega)
            simp only [← hbl] at hmk
            have HLN : Hid (bl.length = ln) := Lib.hid (by rw [hbl]; exact zerosN_length ln)
            clear hbl
            go_upto_region 24 with fail
            have hal : Only (fun _ => False) w6 (w6.alloc (.cells (bvs bl) 5)) := (Only.refl _ _).alloc _
            have hb6 : BAt (w6.alloc (.cells (bvs bl) 5)) w6.heap.size bl := ⟨_, heap_alloc_new _ _⟩
            have hp6 := (HP6.out.fresh w6.heap.size (Nat.le_refl _)).same hal
            have ho6 := hal.keeps HO6.out (fun e => e)
            have hnb : w.heap.size ≤ w6.heap.size ∧ ob < w6.heap.size := ⟨HP6.out.x.hB, lt_of_heap HO6.out⟩
            clear hmk hal ot0 ot1 ot2 ot3 HB6 HP6 HO6 HNB
            generalize hsz : w6.heap.size = nb2 at *
            generalize w6.alloc (.cells (bvs bl) 5) = w6 at *
            clear hsz
            have HB6 := Lib.hid hb6
            have HP6 := Lib.hid hp6
            have HO6 := Lib.hid ho6
            have HNB := Lib.hid hnb
            clear hb6 hp6 ho6 hnb

            have ot0 : w6.cell? ⟨ob, 0, none⟩ = some (.int .i64 kd) := (cellOf HO6.out 0).trans rfl
            have ot1 : w6.cell? ⟨ob, 1, none⟩ = some (.int .i64 at_) := (cellOf HO6.out 1).trans rfl
            have ot2 : w6.cell? ⟨ob, 2, none⟩ = some (.int .i64 nn) := (cellOf HO6.out 2).trans rfl
            have ot3 : w6.cell? ⟨ob, 3, none⟩ = some (.int .u8 (c.toNat : Int)) := (cellOf HO6.out 3).trans rfl

            go_wp2_with fail

            have HS6 := Lib.hid (SliceAt.of_row (BAt.row HB6.out))
            refine (write_st HP6.out.x at_ _ bl ln ln HLN.out HS6.out (HLX0.out.fine HKB.out)).mono ?_
            rintro e w7 ⟨rfl, s7, o7⟩
            have hp7 := HP6.out.nextx o7 s7
            have hnot7 : ¬ Two px rx nb2 := by have := HP6.out.far; rintro (e | e) <;> omega
            have hb7 := BAt.keep HB6.out o7 hnot7
            have ho7 := o7.keeps HO6.out (by have := HOB.out; rintro (e | e) <;> omega)
            have HP7 := Lib.hid hp7
            have HB7 := Lib.hid hb7
            have HO7 := Lib.hid ho7
            clear hp7 hb7 ho7 s7 o7 hnot7 ot0 ot1 ot2 ot3

            have ot0 : w7.cell? ⟨ob, 0, none⟩ = some (.int .i64 kd) := (cellOf HO7.out 0).trans rfl
            have ot1 : w7.cell? ⟨ob, 1, none⟩ = some (.int .i64 at_) := (cellOf HO7.out 1).trans rfl
            have ot2 : w7.cell? ⟨ob, 2, none⟩ = some (.int .i64 nn) := (cellOf HO7.out 2).trans rfl
            have ot3 : w7.cell? ⟨ob, 3, none⟩ = some (.int .u8 (c.toNat : Int)) := (cellOf HO7.out 3).trans rfl

            go_wp2_with fail
            obtain ⟨cy, ly, hy7⟩ := HP7.out.y
            refine (refWrite_calls w7 py qy cy ly X at_ _ bl ln ln HLN.out hy7 (BAt.lt HB7.out) (SliceAt.of_row (BAt.row HB7.out)) (HLX0.out.fine HKB.out)).mono ?_
            rintro e w8 ⟨rfl, ⟨l8, r8⟩, o8⟩
            have hp8 := HP7.out.nexty o8 ⟨cy, l8, r8⟩
            have hnot8 : ¬ Two py qy nb2 := by have := HP7.out.far; rintro (e | e) <;> omega
            have hb8 := BAt.keep HB7.out o8 hnot8
            have ho8 := o8.keeps HO7.out (by have := HOB.out; rintro (e | e) <;> omega)
            have HP8 := Lib.hid hp8
            have HB8 := Lib.hid hb8
            have HO8 := Lib.hid ho8
            have HLX := Lib.hid (HLX0.out.write at_ bl)
            clear hp8 hb8 ho8 r8 o8 hnot8 hy7 ot0 ot1 ot2 ot3 HP7 HB7 HO7 HP6 HB6 HO6 HS6
            generalize (X.write at_ bl).1 = XX at *
            generalize (X.write at_ bl).2 = code at *
            go_wp2_with fail

            go_loopw [17] (fun i wq => ∃ (j : Nat) (l' : List UInt8), j ≤ ln ∧ l'.length = ln ∧ i = .int .i64 j ∧ Play w.heap.size w wq nb2 px rx py qy pz rz pw qw XX XX Z Z ∧ BAt wq nb2 l' ∧ wq.heap[ob]? = some (.cells #[.int .i64 kd, .int .i64 at_, .int .i64 nn, .int .u8 (c.toNat : Int)] 39 (0, 0))) (fun i _ => ln - (intOf i).toNat)
            case atStart => exact ⟨0, bl, Nat.zero_le _, HLN.out, rfl, HP8.out, HB8.out, HO8.out⟩
            case round =>
              obtain ⟨j, l', hj, hl', rfl, hp, hb, ho⟩ := hrel
              by_cases hjl : j < ln
              · have hjz : (j : Int) < (ln : Int) := by omega
                have hl71 := HL71.out
                have hbc : wr.cell? ⟨nb2, j, none⟩ = some (bv (l'.getD j 0)) := by
                  obtain ⟨t, h⟩ := hb
                  exact bvs_cell h (by omega)
                have hbf : wr.frozen? ⟨nb2, j, none⟩ = false := by
                  obtain ⟨t, h⟩ := hb
                  exact freeOf h j
                have HP9 := Lib.hid (hp.put (by have := HNB.out; omega) j (bv 98))
                have HB9 := Lib.hid (BAt.set hb j 98)
                have HO9 := Lib.hid (((Only.refl (· = nb2) wr).put j (bv 98)).keeps ho (fun e => by have := HNB.out; omega))
                clear hp hb ho
                unfold bv at HP9 HB9 HO9 hbc
                go_wp2_with fail
                go_roundw
                case rel => exact ⟨j + 1, l'.set j 98, by omega, by rw [List.length_set]; exact hl', by go_num, HP9.out, HB9.out, HO9.out⟩
                case measure => simp [intOf]; omega
              · have hjz : ¬ (j : Int) < (ln : Int) := by omega
                have HPF := Lib.hid hp
                have HOF := Lib.hid ho
                clear hp hb ho
                go_wp2_with fail
                go_meet
                case rel => exact ⟨px, rx, py, qy, pz, rz, pw, qw, nb2, XX, Z, rfl, rfl, rfl, rfl, HPF.out, HLX.out, HLZ.out.mono (by omega), HOF.out⟩
        case rest =>
          obtain ⟨px, rx, py, qy, pz, rz, pw, qw, nb, X, Z, rfl, rfl, rfl, rfl, hp, hlx, hlz, ho⟩ := hcut
          have HP6 := Lib.hid hp
          have HO6 := Lib.hid ho
          have HLX := Lib.hid hlx
          have HLZ2 := Lib.hid hlz
          clear hp hlx hlz ho HLX0 HLZ HP5 HO5 HK HK2 ot0 ot1 ot2 ot3
          have ot1 : wc.cell? ⟨ob, 1, none⟩ = some (.int .i64 at_) := (cellOf HO6.out 1).trans rfl
          go_wp2_with fail
          obtain ⟨cy, ly, hy6⟩ := HP6.out.y
          refine (alike_calls HP6.out.x hy6 at_).mono ?_
          rintro e w7 ⟨rfl, o7⟩
          have hp7 := HP6.out.same o7
          have ho7 := o7.keeps HO6.out (fun e => e)
          have HP7 := Lib.hid hp7
          have HO7 := Lib.hid ho7
          clear hp7 ho7 o7 hy6 HP6 HO6 ot1
          have ot1 : w7.cell? ⟨ob, 1, none⟩ = some (.int .i64 at_) := (cellOf HO7.out 1).trans rfl
          go_wp2_with fail
          obtain ⟨cy2, ly2, hy7⟩ := HP7.out.v
          refine (alike_calls HP7.out.z hy7 at_).mono ?_
          rintro e w8 ⟨rfl, o8⟩
          have hp8 := HP7.out.same o8
          have HP8 := Lib.hid hp8
          clear hp8 o8 hy7 HP7 HO7 ot1
          go_wp2_with fail
          go_roundw
          case rel => exact ⟨k + 1, px, rx, py, qy, pz, rz, pw, qw, nb, X, Z, by omega, rfl, rfl, rfl, rfl, by go_num, HP8.out, HLX.out, HLZ2.out⟩
          case measure => simp [intOf]; omega
      · have hkz : ¬ (k : Int) < (len : Int) := by omega
        go_wp2_with fail
        go_ret
        exact ⟨rfl, HP.out.x.below⟩
  · have hN2 : a0 < 1 ∨ 4096 < a0 := by omega
    refine (new_refuses w1 a0 hN2).mono ?_
    rintro e w2 ⟨rfl, rfl⟩
    go_wp2_with fail
    refine (refNew_refuses w1 a0 hN2).mono ?_
    rintro e w2 ⟨rfl, rfl⟩
    go_wp2_with fail
    go_ret
    exact ⟨rfl, HB.out⟩

/-! ### THE ROW's STEP: WRITTEN OUT -/
set_option maxRecDepth 100000 in
theorem lifted (os : Os) (started : os.Started) (H : Type) (enc : TypeId × Value → H) :
    ReturnsInHanded {} Try.checked os 7 .any (Rows.diskPlaysSpec.pre6 enc Try.prog Try.f7 Rows.diskPlaysRow.domain false) (Rows.diskPlaysSpec.post enc Try.prog Try.f7 false true false false) := by
  refine returnsInHanded_of_change (C := Try.checked) own started (by kernel_rfl) Try.func7
    (ChangeSpec.witness6 (enc := enc) (C := Try.checked) false ⟨#[], #[.int .i64 0, .slice none 0 0], []⟩ 8 (by kernel_rfl) (by kernel_rfl) (by kernel_rfl) (by kernel_rfl)) ?_
  intro W base args ds gs before hval0 hW hcnd _
  have hval : ∀ (j : Nat) t v, Try.f7.params[j]? = some t → args[j]? = some v → Value.okWide Try.prog W .any base t v := hval0
  have hW' := hW
  obtain ⟨p, q, hA0, hV, rfl, hfz, hnd⟩ := hW
  have hA : DataW.TrodAll enc Try.prog W 0 (fun _ => true) true Try.f7.params.toList args.toList ds p := hA0
  rw [Try.params7] at hA hval
  obtain ⟨v0, vs0, d0, ds0, p0, q0, hargs, rfl, rfl, h0, r0⟩ := trodAll_cons hA
  obtain ⟨v1, vs1, d1, ds1, p1, q1, rfl, rfl, rfl, h1, r1⟩ := trodAll_cons r0
  obtain ⟨rfl, rfl, rfl⟩ := trodAll_nil r1
  obtain rfl : args = #[v0, v1] := by cases args; simp_all
  obtain ⟨rfl, rfl⟩ := trodVars_none hV
  obtain ⟨a1, len1, cap1, rfl⟩ := okWide_slice Try.underlying36 (hval 1 36 v1 rfl rfl)
  have k1 := h1
  have lt1 : ∀ x ∈ p1, x.block < W.heap.size := by obtain ⟨m, hm⟩ := k1; exact DataW.trod_lt m _ _ _ hm
  have w1 : OpsAt W a1 len1 := by
    obtain ⟨fuel, hf⟩ := h1
    exact ops_open hf
  obtain ⟨a0, rfl, rfl, rfl, w0⟩ := open_int Try.underlying3 (hval 0 3 v0 rfl rfl) h0
  clear hA0 hval0
  refine (walk a0 a1 len1 cap1 W w1).mono fun e W' ⟨he, bel⟩ => ?_
  subst he
  exact ⟨_, rfl, _, _, _, [], _, [], hW', trodAll_mk1 (shut_bool Try.underlying4 _), (trodAll_cons_mk (shut_int Try.underlying3 w0) (trodAll_cons_mk (Below.trod laidOut (by kernel_rfl) (of_decide_eq_true (by kernel_rfl)) k1 bel lt1) trodAll_mk0)), rfl, bel.frame _, fun h => by cases h⟩

theorem over : Rows.diskPlaysRow.holds Try.pinned (OpenSpec.ofChange Rows.diskPlaysSpec) :=
  OpenClaim.holds_of_wide 7 Try.f7 rfl rfl rfl rfl rfl rfl rfl ⟨rfl, rfl, rfl, rfl, rfl⟩ rfl rfl rfl rfl rfl (by kernel_rfl) Try.func7 (by kernel_rfl)
    (of_decide_eq_true (by kernel_rfl)) (by unfold Func.isWrapper; first | (rw [if_pos (by decide +kernel)]; kernel_rfl) | (rw [if_neg (by decide +kernel)]; exact ⟨rfl, rfl⟩))
    (fun os started H enc _ => lifted os started H enc)

theorem proved : Rows.DiskPlaysSaid := over

#print axioms proved
end Go.Proofs.Ytlieijnhlfedmaa.diskPlays
