/- DiskApart: a disk and its clone go their own ways, whatever is written to either: for any writes ahead, any to one, any to the other (no condition). -/
import Derived.Test.YtlieijnhlfedmaaRows
import Derived.Test.YtlieijnhlfedmaaDiskOps
import Derived.Test.YtlieijnhlfedmaaBytesArg
import Derived.ShutString
import Derived.ChangeOld
namespace Go.Proofs.Ytlieijnhlfedmaa.diskApart
open Go.ChangeShapes Go.WideShapes Go.ChangeAt Go.RowKit
open Go.ChangeMaps (open_string shut_string)
set_option linter.unusedVariables false

theorem own : ownKnob Try.prog.godebug = none := by kernel_rfl
theorem laidOut : laidOutB Try.prog = true := by kernel_rfl
def zeros8 : List UInt8 := List.replicate 8 0
def zeros16 : List UInt8 := List.replicate 16 0

/-- The rows behind k writes ahead. -/
def setAll (z : List UInt8) : Nat → List UInt8
  | 0 => zeros8
  | k + 1 => (setAll z k).set (k % 8) (z.getD k 0)
theorem setAll_length (z : List UInt8) : ∀ k, (setAll z k).length = 8
  | 0 => rfl
  | k + 1 => by simp [setAll, setAll_length z k]
theorem set_left {a b : List UInt8} {i : Nat} (h : i < a.length) (c : UInt8) : (a ++ b).set i c = a.set i c ++ b := by
  rw [List.set_append_left _ _ h]
theorem set_right {a b : List UInt8} {i : Nat} (c : UInt8) : (a ++ b).set (a.length + i) c = a ++ b.set i c := by
  rw [List.set_append_right _ _ (by omega)]; simp

/-- Two disks of the call's own that share no block. -/
structure Pair (p r p2 r2 : Nat) : Prop where
  a : p2 ≠ p
  b : p2 ≠ r
  c : r2 ≠ p
  d : r2 ≠ r

theorem keep2 {B : Nat} {w0 w w' : World} {p r p2 r2 : Nat} {D' D2 : DK} (h : DSt B w0 w p2 r2 D2) (k : DSt B w0 w' p r D') (o : Only (Two p r) w w') (q : Pair p r p2 r2) : DSt B w0 w' p2 r2 D2 :=
  ⟨h.disk.only o (fun e => by rcases e with e | e; exact q.a e; exact q.b e) (fun e => by rcases e with e | e; exact q.c e; exact q.d e), k.below, h.hp, h.hr, k.hB⟩
theorem Pair.symm {p r p2 r2 : Nat} (q : Pair p r p2 r2) : Pair p2 r2 p r := ⟨fun e => q.a e.symm, fun e => q.c e.symm, fun e => q.b e.symm, fun e => q.d e.symm⟩

theorem Fulls.blow {m n : Nat} {D : DK} {wl : List UInt8} (h : Fulls m n D wl) (l : List UInt8) (hl : l.length = 64) (hm : 0 < m) : ((D.fused 0).write 0 l).2 = 2 ∧ Fulls m n ((D.fused 0).write 0 l).1.booted wl := by
  have hc : D.code 0 = 0 := h.code 0 hm
  have e1 : D.fused 0 = { D with fuse := 0 } := by
    unfold DK.fused
    rw [h.off]
    rfl
  have e : (D.fused 0).write 0 l = (({ D with fuse := 0 } : DK).blown, 2) := by
    rw [e1]
    unfold DK.write
    have hc' : ({ D with fuse := 0 } : DK).code 0 = 0 := hc
    rw [if_neg (by rw [hc']; simp), if_neg (by simp [hl]), if_pos rfl]
  rw [e]
  exact ⟨rfl, h.len, rfl, rfl, h.writes, h.wlen, h.get⟩

set_option maxRecDepth 100000 in
set_option maxHeartbeats 8000000 in
theorem walk (a0 : Option Addr) (len0 cap0 : Nat) (a1 : Option Addr) (len1 cap1 : Nat) (a2 : Option Addr) (len2 cap2 : Nat) (w : World) (w0 : BytesArg w a0 len0) (w1 : BytesArg w a1 len1) (w2 : BytesArg w a2 len2) :
    Calls Try.prog 6 #[.slice a0 len0 cap0, .slice a1 len1 cap1, .slice a2 len2 cap2] w fun e w' => e = .returned (.bool true) ∧ Below w.heap.size w w' := by
  obtain ⟨hl0, z0, hz0, hc0⟩ := w0
  obtain ⟨hl1, z1, hz1, hc1⟩ := w1
  obtain ⟨hl2, z2, hz2, hc2⟩ := w2
  have C0 := Lib.hid hc0
  have C1 := Lib.hid hc1
  have C2 := Lib.hid hc2
  have Z0 := Lib.hid hz0
  have Z1 := Lib.hid hz1
  have Z2 := Lib.hid hz2
  clear hc0 hc1 hc2 hz0 hz1 hz2
  have hbuild : ∀ w, (Instr.build 42 #[]).run Try.prog w = .ok (.agg (bvs zeros16)) w := fun w => by kernel_rfl
  have hzero : ∀ w, (zeroValue 42).run Try.prog w = .ok (.agg (bvs zeros16)) w := fun w => by kernel_rfl
  have hsz : (bvs zeros16).size = 16 := by rfl
  have hst := fun w => run_storeCells_new Try.prog w (bvs zeros16) zeros16 42 rfl
  go_enter Try.func6, Try.ntmps6
  go_wp2_with fail
  refine (shown_calls w).mono ?_
  rintro e w1 ⟨rfl, hb⟩
  have HB := Lib.hid hb
  clear hb
  go_wp2_with fail
  refine (new_st w.heap.size w w1 8 (by omega) (by omega) HB.out.size HB.out).mono ?_
  rintro e w3 ⟨p, r, rfl, s2, -, -, -⟩
  have S2 := Lib.hid s2
  clear s2
  go_upto_block 0 with (fail)
  go_cut [10] (fun _ wr => ∃ (k n : Nat) (D : DK), (k = len0 ∧ k ≤ 40 ∨ k = 40 ∧ k ≤ len0) ∧ n ≤ 40 ∧ Fulls 8 n D (setAll z0 k) ∧ DSt w.heap.size w wr p r D)
  case first =>
    clear hbuild hzero hsz hst
    go_wp2_with fail
    go_loopw [10] (fun i wr => ∃ (k : Nat) (D : DK), k ≤ len0 ∧ k ≤ 40 ∧ i = .int .i64 k ∧ Fulls 8 k D (setAll z0 k) ∧ DSt w.heap.size w wr p r D) (fun i _ => 40 - (intOf i).toNat)
    case atStart => exact ⟨0, _, Nat.zero_le _, Nat.zero_le _, rfl, Fulls.start 8, S2.out⟩
    case round =>
      obtain ⟨k, D, hkl, hk40, rfl, hrel, hst⟩ := hrel
      have HREL := Lib.hid hrel
      have HST := Lib.hid hst
      clear hrel hst
      by_cases hgo : k < len0 ∧ k < 40
      · obtain ⟨hlt, hlt40⟩ := hgo
        obtain ⟨x, rfl, hxl, hc⟩ := C0.out k hlt
        have g := (HST.out.below.cell (p := x.add k) (by rw [add_block]; exact hxl)).trans hc
        unfold bv at g
        generalize hcc : z0.getD k 0 = c at *
        have HCC := Lib.hid hcc
        clear hc hcc
        have hmod : ((k : Int) % 8) = ((k % 8 : Nat) : Int) := by omega
        have HM := Lib.hid hmod
        clear hmod
        go_wp2_with fail
        refine (full_st HST.out c _ rfl).mono ?_
        rintro e w5 ⟨fb, rfl, fr, s5, o5, -⟩
        go_wp2_with fail
        rw [HM.out]
        refine (write_st s5 _ _ _ 64 64 (blockOf_length c) (.of_row fr) (HREL.out.fine (by omega))).mono ?_
        obtain ⟨e1, e2⟩ := HREL.out.next (k % 8) (by omega) c
        generalize D.write ((k % 8 : Nat) : Int) (blockOf c) = DD at *
        obtain ⟨D', code⟩ := DD
        simp only at e1 e2
        subst e1
        rintro e w6 ⟨rfl, s6, o6⟩
        have E2 := Lib.hid e2
        clear e2 fr s5 o5 o6 g
        go_wp2_with fail
        go_roundw
        case rel => exact ⟨k + 1, D', by omega, by omega, by go_num, by rw [setAll, HCC.out]; exact E2.out, s6⟩
        case measure => simp [intOf]; omega
      · have hstop : len0 ≤ k ∨ (k < len0 ∧ 40 ≤ k) := by omega
        clear hgo
        rcases hstop with hstop | ⟨hstop, hstop2⟩
        · go_wp2_with fail
          go_meet
          case rel => exact ⟨k, k, D, by omega, hk40, HREL.out, HST.out⟩
        · go_wp2_with fail
          go_meet
          case rel => exact ⟨k, k, D, by omega, hk40, HREL.out, HST.out⟩
  case rest =>
    obtain ⟨kA, nA, D, hkA, hnA, hrel, hst'⟩ := hcut
    have HKA := Lib.hid hkA
    have HREL := Lib.hid hrel
    have HST := Lib.hid hst'
    clear hkA hrel hst'
    go_wp2_with fail
    refine (clone_calls wc p r D HST.out.disk).mono ?_
    rintro e w5 ⟨rfl, hd2, o5⟩
    obtain ⟨p2, hp2⟩ : ∃ p2, p2 = wc.heap.size := ⟨_, rfl⟩
    obtain ⟨r2, hr2⟩ : ∃ r2, r2 = wc.heap.size + 1 := ⟨_, rfl⟩
    rw [← hr2, ← hp2] at hd2
    have s5 := HST.out.same o5
    have t5 : DSt w.heap.size w w5 p2 r2 D := ⟨hd2, s5.below, by rw [hp2]; exact HST.out.hB, by rw [hr2]; exact Nat.le_succ_of_le HST.out.hB, s5.hB⟩
    have q : Pair p r p2 r2 := by
      have h1 := lt_of_heap HST.out.disk.cells
      obtain ⟨es, cc, hm, _⟩ := HST.out.disk.map
      have h2 := lt_of_heap hm
      exact ⟨by omega, by omega, by omega, by omega⟩
    rw [← hp2]
    have Q := Lib.hid q
    have S5 := Lib.hid s5
    have T5 := Lib.hid t5
    clear hp2 hr2 hd2 o5 s5 t5 q
    have HW := Lib.hid HREL.out.writes
    go_wp2_with fail
    refine (writes_st T5.out).mono ?_
    rw [HW.out]
    rintro e w6 ⟨rfl, rfl⟩
    go_wp2_with fail
    refine (writes_st S5.out).mono ?_
    rw [HW.out]
    rintro e w6 ⟨rfl, rfl⟩
    go_upto_block 2 with (fail)
    obtain ⟨wb, hwb⟩ : ∃ wb, wb = w5.heap.size := ⟨_, rfl⟩
    obtain ⟨w7, hw7⟩ : ∃ w7, w7 = w5.alloc (.cells (bvs zeros16) 42) := ⟨_, rfl⟩
    rw [← hwb, ← hw7]
    have o7 : Only (fun _ => False) w5 w7 := by rw [hw7]; exact (Only.refl _ _).alloc _
    have s7 := S5.out.same o7
    have t7 := T5.out.same o7
    have hrow7 : w7.heap[wb]? = some (.cells (bvs zeros16) 42 (0, 0)) := by rw [hw7, hwb, heap_alloc_new]
    have hwp : wb ≠ p := by have := lt_of_heap S5.out.disk.cells; omega
    have hwr : wb ≠ r := by obtain ⟨es, c, hm, _⟩ := S5.out.disk.map; have := lt_of_heap hm; omega
    have hwp2 : wb ≠ p2 := by have := lt_of_heap T5.out.disk.cells; omega
    have hwr2 : wb ≠ r2 := by obtain ⟨es, c, hm, _⟩ := T5.out.disk.map; have := lt_of_heap hm; omega
    have hwB : w.heap.size ≤ wb := by rw [hwb]; exact S5.out.hB
    have S7 := Lib.hid s7
    have T7 := Lib.hid t7
    have R7 := Lib.hid hrow7
    clear s7 t7 o7 hrow7 hw7 hwb S5 T5 HW HST S2 hbuild hzero hsz hst
    go_cut [13] (fun _ wr => DSt w.heap.size w wr p r D ∧ DSt w.heap.size w wr p2 r2 D ∧ wr.heap[wb]? = some (.cells (bvs (setAll z0 kA ++ setAll z0 kA)) 42 (0, 0)))
    case first =>
      go_wp2_with fail
      go_loopw [13] (fun i wr => ∃ k : Nat, k ≤ len0 ∧ k ≤ 40 ∧ i = .int .i64 k ∧ DSt w.heap.size w wr p r D ∧ DSt w.heap.size w wr p2 r2 D ∧ wr.heap[wb]? = some (.cells (bvs (setAll z0 k ++ setAll z0 k)) 42 (0, 0))) (fun i _ => 40 - (intOf i).toNat)
      case atStart => exact ⟨0, Nat.zero_le _, Nat.zero_le _, rfl, S7.out, T7.out, R7.out⟩
      case round =>
        obtain ⟨k, hkl, hk40, rfl, hs, ht, hrow⟩ := hrel
        have HS := Lib.hid hs
        have HT := Lib.hid ht
        have HR := Lib.hid hrow
        clear hs ht hrow
        have hlen8 := setAll_length z0 k
        by_cases hgo : k < len0 ∧ k < 40
        · obtain ⟨hlt, hlt40⟩ := hgo
          obtain ⟨x, rfl, hxl, hc⟩ := C0.out k hlt
          have g0 := (HS.out.below.cell (p := x.add k) (by rw [add_block]; exact hxl)).trans hc
          generalize hcc : z0.getD k 0 = c at *
          have HCC := Lib.hid hcc
          clear hc hcc
          obtain ⟨m, hm⟩ : ∃ m, m = k % 8 := ⟨_, rfl⟩
          have hm8 : m < 8 := by omega
          have e1 : (setAll z0 k ++ setAll z0 k).set m c = setAll z0 (k + 1) ++ setAll z0 k := by rw [set_left (by omega), setAll, HCC.out, hm]
          have e2 : (setAll z0 (k + 1) ++ setAll z0 k).set (8 + m) c = setAll z0 (k + 1) ++ setAll z0 (k + 1) := by
            have := set_right (a := setAll z0 (k + 1)) (b := setAll z0 k) (i := m) c
            rw [setAll_length] at this
            rw [this]
            congr 1
            rw [setAll, HCC.out, hm]
          have n1 : m < (setAll z0 k ++ setAll z0 k).length := by simp [setAll_length]; omega
          have n3 : 8 + m < (setAll z0 k ++ setAll z0 k).length := by simp [setAll_length]; omega
          have n2 : 8 + m < (setAll z0 (k + 1) ++ setAll z0 k).length := by simp [setAll_length]; omega
          have E2 := Lib.hid e2
          have E1 := Lib.hid e1
          generalize setAll z0 k ++ setAll z0 k = L0 at *
          generalize setAll z0 (k + 1) ++ setAll z0 k = L1 at *
          generalize hL2 : setAll z0 (k + 1) ++ setAll z0 (k + 1) = L2 at *
          have HL2 := Lib.hid hL2
          clear hL2
          clear e1 e2 hlen8
          have hc0 := bvs_cell HR.out n1
          have hf0 := freeOf HR.out m
          have hf3 := freeOf HR.out (8 + m)
          have hc3 := bvs_cell HR.out n3
          have hrow1 : (wr.setCell ⟨wb, m, none⟩ (bv c)).heap[wb]? = some (.cells (bvs L1) 42 (0, 0)) := by
            rw [heap_setCell_same wr wb m _ _ _ HR.out, bvs_set, E1.out]
          have hs1 := HS.out.put wb m (bv c) hwB hwp hwr
          have ht1 := HT.out.put wb m (bv c) hwB hwp2 hwr2
          have g1 := (hs1.below.cell (p := x.add k) (by rw [add_block]; exact hxl)).trans ((HS.out.below.cell (p := x.add k) (by rw [add_block]; exact hxl)).symm.trans g0)
          have hc1 := bvs_cell hrow1 n2
          have hf1 := freeOf hrow1 (8 + m)
          have hrow2 : ((wr.setCell ⟨wb, m, none⟩ (bv c)).setCell ⟨wb, 8 + m, none⟩ (bv c)).heap[wb]? = some (.cells (bvs L2) 42 (0, 0)) := by
            rw [heap_setCell_same _ wb (8 + m) _ _ _ hrow1, bvs_set, E2.out]
          have hs2 := hs1.put wb (8 + m) (bv c) hwB hwp hwr
          have ht2 := ht1.put wb (8 + m) (bv c) hwB hwp2 hwr2
          have FIN := Lib.hid (And.intro hs2 (And.intro ht2 hrow2))
          clear hs2 ht2 hrow2 hs1 ht1 hrow1
          unfold bv at g0 g1 hc0 hc1 hc3 FIN
          subst hm
          go_wp2_with fail
          go_roundw
          case rel => exact ⟨k + 1, by omega, by omega, by go_num, FIN.out.1, FIN.out.2.1, by rw [HL2.out]; exact FIN.out.2.2⟩
          case measure => simp [intOf]; omega
        · have hstop : len0 ≤ k ∨ (k < len0 ∧ 40 ≤ k) := by omega
          clear hgo
          have hkk : k = kA := by have := HKA.out; omega
          subst hkk
          rcases hstop with hstop | ⟨hstop, hstop2⟩
          · go_wp2_with fail
            go_meet
            case rel => exact ⟨HS.out, HT.out, HR.out⟩
          · go_wp2_with fail
            go_meet
            case rel => exact ⟨HS.out, HT.out, HR.out⟩
    case rest =>
      obtain ⟨hs, ht, hrow⟩ := hcut
      have HS := Lib.hid hs
      have HT := Lib.hid ht
      have HR := Lib.hid hrow
      clear hs ht hrow S7 T7 R7
      generalize setAll z0 kA = al0 at *
      clear HKA
      go_upto_block 4 with (fail)
      go_cut [14] (fun _ wr => ∃ (n1 n2 : Nat) (D1 D2 : DK) (al bl : List UInt8), n1 ≤ 1000 ∧ n2 ≤ 1000 ∧ Fulls 8 n1 D1 al ∧ Fulls 8 n2 D2 bl ∧ DSt w.heap.size w wr p r D1 ∧ DSt w.heap.size w wr p2 r2 D2 ∧ wr.heap[wb]? = some (.cells (bvs (al ++ bl)) 42 (0, 0)))
      case first =>
        go_wp2_with fail
        go_loopw [14] (fun i wr => ∃ (k n1 n2 : Nat) (D1 D2 : DK) (al bl : List UInt8), k ≤ 40 ∧ n1 ≤ 40 + k ∧ n2 ≤ 40 + k ∧ i = .int .i64 k ∧ Fulls 8 n1 D1 al ∧ Fulls 8 n2 D2 bl ∧ DSt w.heap.size w wr p r D1 ∧ DSt w.heap.size w wr p2 r2 D2 ∧ wr.heap[wb]? = some (.cells (bvs (al ++ bl)) 42 (0, 0))) (fun i _ => 40 - (intOf i).toNat)
        case atStart => exact ⟨0, nA, nA, D, D, al0, al0, by omega, by omega, by omega, rfl, HREL.out, HREL.out, HS.out, HT.out, HR.out⟩
        case round =>
          clear HS HT HR
          obtain ⟨k, n1, n2, D1, D2, al, bl, hk40, hn1, hn2, rfl, hra, hrb, hs, ht, hrow⟩ := hrel
          have HRA := Lib.hid hra
          have HRB := Lib.hid hrb
          have HS := Lib.hid hs
          have HT := Lib.hid ht
          have HR := Lib.hid hrow
          clear hra hrb hs ht hrow
          by_cases hlt : k < 40
          · go_upto_if 100 with (fail)
            go_cut [99] (fun _ wr => ∃ (n1 : Nat) (D1 : DK) (al : List UInt8), n1 ≤ 41 + k ∧ Fulls 8 n1 D1 al ∧ DSt w.heap.size w wr p r D1 ∧ DSt w.heap.size w wr p2 r2 D2 ∧ wr.heap[wb]? = some (.cells (bvs (al ++ bl)) 42 (0, 0)))
            case first =>
              by_cases hlt1 : k < len1
              · obtain ⟨x, rfl, hxl, hc⟩ := C1.out k hlt1
                have g0 := (HS.out.below.cell (p := x.add k) (by rw [add_block]; exact hxl)).trans hc
                generalize hcc : z1.getD k 0 = c at *
                clear hcc
                have G := Lib.hid hc
                clear hc
                unfold bv at g0
                have hmod : ((3 * (k : Int)) % 8) = ((3 * k % 8 : Nat) : Int) := by omega
                have HM := Lib.hid hmod
                clear hmod
                go_wp2_with fail
                refine (full_st HS.out c _ rfl).mono ?_
                rintro e w5 ⟨fb, rfl, fr, s5, o5, -⟩
                have t5 := HT.out.same o5
                have hrow5 := o5.keeps HR.out (fun h => h)
                go_wp2_with fail
                rw [HM.out]
                obtain ⟨m, hm⟩ : ∃ m, m = 3 * k % 8 := ⟨_, rfl⟩
                have hm8 : m < 8 := by omega
                rw [← hm]
                refine (write_st s5 _ _ _ 64 64 (blockOf_length c) (.of_row fr) (HRA.out.fine (by omega))).mono ?_
                obtain ⟨e1, e2⟩ := HRA.out.next m hm8 c
                generalize D1.write (m : Int) (blockOf c) = DD at *
                obtain ⟨D', code⟩ := DD
                simp only at e1 e2
                subst e1
                rintro e w6 ⟨rfl, s6, o6⟩
                have t6 := keep2 t5 s6 o6 Q.out
                have hrow6 := o6.keeps hrow5 (fun h => by rcases h with h | h; exact hwp h; exact hwr h)
                have g6 := (s6.below.cell (p := x.add k) (by rw [add_block]; exact hxl)).trans ((HS.out.below.cell (p := x.add k) (by rw [add_block]; exact hxl)).symm.trans g0)
                have hc6 := bvs_cell hrow6 (j := m) (by rw [List.length_append, HRA.out.wlen, HRB.out.wlen]; omega)
                have hf6 := freeOf hrow6 m
                have FIN := Lib.hid (And.intro e2 (And.intro (s6.put wb m (bv c) hwB hwp hwr) (And.intro (t6.put wb m (bv c) hwB hwp2 hwr2) (show (w6.setCell ⟨wb, m, none⟩ (bv c)).heap[wb]? = some (.cells (bvs (al.set m c ++ bl)) 42 (0, 0)) from by
                  rw [heap_setCell_same w6 wb m _ _ _ hrow6, bvs_set, set_left (by rw [HRA.out.wlen]; omega)]))))
                clear e2 fr s5 t5 o5 o6 hrow5 hrow6 s6 t6 g0 HS HT HR
                unfold bv at hc6 FIN
                subst hm
                go_wp2_with fail
                go_meet
                case rel => exact ⟨n1 + 1, D', _, by omega, FIN.out.1, FIN.out.2.1, FIN.out.2.2.1, FIN.out.2.2.2⟩
              · go_wp2_with fail
                go_meet
                case rel => exact ⟨n1, D1, al, by omega, HRA.out, HS.out, HT.out, HR.out⟩
            case rest =>
              clear HS HT HR HRA
              obtain ⟨n1', D1', al', hn1', hra, hs, ht, hrow⟩ := hcut
              have HRA := Lib.hid hra
              have HS := Lib.hid hs
              have HT := Lib.hid ht
              have HR := Lib.hid hrow
              clear hra hs ht hrow
              by_cases hlt1 : k < len2
              · obtain ⟨x, rfl, hxl, hc⟩ := C2.out k hlt1
                have g0 := (HS.out.below.cell (p := x.add k) (by rw [add_block]; exact hxl)).trans hc
                generalize hcc : z2.getD k 0 = c at *
                clear hcc
                have G := Lib.hid hc
                clear hc
                unfold bv at g0
                have hmod : ((5 * (k : Int)) % 8) = ((5 * k % 8 : Nat) : Int) := by omega
                have HM := Lib.hid hmod
                clear hmod
                go_wp2_with fail
                refine (full_st HT.out c _ rfl).mono ?_
                rintro e w5 ⟨fb, rfl, fr, t5, o5, -⟩
                have s5 := HS.out.same o5
                have hrow5 := o5.keeps HR.out (fun h => h)
                go_wp2_with fail
                rw [HM.out]
                obtain ⟨m, hm⟩ : ∃ m, m = 5 * k % 8 := ⟨_, rfl⟩
                have hm8 : m < 8 := by omega
                rw [← hm]
                refine (write_st t5 _ _ _ 64 64 (blockOf_length c) (.of_row fr) (HRB.out.fine (by omega))).mono ?_
                obtain ⟨e1, e2⟩ := HRB.out.next m hm8 c
                generalize D2.write (m : Int) (blockOf c) = DD at *
                obtain ⟨D', code⟩ := DD
                simp only at e1 e2
                subst e1
                rintro e w6 ⟨rfl, t6, o6⟩
                have s6 := keep2 s5 t6 o6 Q.out.symm
                have hrow6 := o6.keeps hrow5 (fun h => by rcases h with h | h; exact hwp2 h; exact hwr2 h)
                have g6 := (s6.below.cell (p := x.add k) (by rw [add_block]; exact hxl)).trans ((HS.out.below.cell (p := x.add k) (by rw [add_block]; exact hxl)).symm.trans g0)
                have hc6 := bvs_cell hrow6 (j := 8 + m) (by rw [List.length_append, HRA.out.wlen, HRB.out.wlen]; omega)
                have hf6 := freeOf hrow6 (8 + m)
                have FIN := Lib.hid (And.intro e2 (And.intro (s6.put wb (8 + m) (bv c) hwB hwp hwr) (And.intro (t6.put wb (8 + m) (bv c) hwB hwp2 hwr2) (show (w6.setCell ⟨wb, 8 + m, none⟩ (bv c)).heap[wb]? = some (.cells (bvs (al' ++ bl.set m c)) 42 (0, 0)) from by
                  rw [heap_setCell_same w6 wb (8 + m) _ _ _ hrow6, bvs_set]
                  have h8 := set_right (a := al') (b := bl) (i := m) c
                  rw [HRA.out.wlen] at h8
                  rw [h8]))))
                clear e2 fr s5 t5 o5 o6 hrow5 hrow6 s6 t6 g0 HS HT HR
                unfold bv at hc6 FIN
                subst hm
                go_wp2_with fail
                go_roundw
                case rel => exact ⟨k + 1, n1', n2 + 1, D1', D', al', _, by omega, by omega, by omega, by go_num, HRA.out, FIN.out.1, FIN.out.2.1, FIN.out.2.2.1, FIN.out.2.2.2⟩
                case measure => simp [intOf]; omega
              · go_wp2_with fail
                go_roundw
                case rel => exact ⟨k + 1, n1', n2, D1', D2, al', bl, by omega, by omega, by omega, by go_num, HRA.out, HRB.out, HS.out, HT.out, HR.out⟩
                case measure => simp [intOf]; omega
          · go_wp2_with fail
            go_meet
            case rel => exact ⟨n1, n2, D1, D2, al, bl, by omega, by omega, HRA.out, HRB.out, HS.out, HT.out, HR.out⟩
      case rest =>
        clear HS HT HR
        obtain ⟨n1, n2, D1, D2, al, bl, hn1, hn2, hra, hrb, hs, ht, hrow⟩ := hcut
        have HRA := Lib.hid hra
        have HRB := Lib.hid hrb
        have SX := Lib.hid hs
        have TX := Lib.hid ht
        have RX := Lib.hid hrow
        clear hra hrb hs ht hrow
        obtain ⟨b1, b2⟩ := Fulls.blow HRA.out (blockOf 1) (blockOf_length 1) (by omega)
        go_wp2_with fail
        refine (fuse_st SX.out 0).mono ?_
        rintro e w9 ⟨rfl, s9, o9⟩
        have t9 := keep2 TX.out s9 o9 Q.out
        have r9 := o9.keeps RX.out (fun h => by rcases h with h | h; exact hwp h; exact hwr h)
        go_wp2_with fail
        refine (full_st s9 1 _ rfl).mono ?_
        rintro e w10 ⟨fb, rfl, fr, s10, o10, -⟩
        have t10 := t9.same o10
        have r10 := o10.keeps r9 (fun h => h)
        go_wp2_with fail
        have hfine : (D1.fused 0).fine := by
          have h1 := HRA.out.writes
          refine ⟨?_, ?_, ?_⟩
          · unfold DK.fused; rw [HRA.out.off]; show (if (0 : Int) < -1 then (-1 : Int) else 0) ≤ _; rw [if_neg (by omega)]; omega
          · unfold DK.fused; rw [HRA.out.off]; show 0 ≤ D1.writes; rw [h1]; omega
          · unfold DK.fused; rw [HRA.out.off]; show D1.writes < _; rw [h1]; omega
        refine (write_st s10 0 _ _ 64 64 (blockOf_length 1) (.of_row fr) hfine).mono ?_
        generalize (D1.fused 0).write 0 (blockOf 1) = DD at *
        obtain ⟨D3, code⟩ := DD
        simp only at b1 b2
        subst b1
        rintro e w11 ⟨rfl, s11, o11⟩
        have t11 := keep2 t10 s11 o11 Q.out
        have r11 := o11.keeps r10 (fun h => by rcases h with h | h; exact hwp h; exact hwr h)
        clear SX TX RX s9 t9 o9 r9 s10 t10 o10 r10 o11 fr hfine
        have SX := Lib.hid s11
        have TX := Lib.hid t11
        have RX := Lib.hid r11
        have HRD := Lib.hid b2
        clear s11 t11 r11 b2 HRA
        have HRA := HRD
        go_wp2_with fail
        go_loopw [15] (fun i wr => ∃ j : Nat, j ≤ 8 ∧ i = .int .i64 j ∧ DSt w.heap.size w wr p2 r2 D2 ∧ DSt w.heap.size w wr p r D3 ∧ wr.heap[wb]? = some (.cells (bvs (al ++ bl)) 42 (0, 0))) (fun i _ => 8 - (intOf i).toNat)
        case atStart => exact ⟨0, by omega, rfl, TX.out, SX.out, RX.out⟩
        case round =>
          obtain ⟨j, hj, rfl, hs, ht, hrow⟩ := hrel
          have HS := Lib.hid hs
          have HT := Lib.hid ht
          have HR := Lib.hid hrow
          clear hs ht hrow
          by_cases hj8 : j < 8
          · have HCJ := Lib.hid (HRB.out.code j hj8)
            have HG := Lib.hid (HRB.out.get j hj8)
            go_wp2_with fail
            refine (read_st HS.out j HCJ.out).mono ?_
            rw [HG.out]
            rintro e w7 ⟨b7, rfl, r7, -, s7, o7, -⟩
            have hrow7 := o7.keeps HR.out (fun h => h)
            have t7 := HT.out.same o7
            clear o7
            go_wp2_with fail
            have R7 := Lib.hid r7.drew
            have S7 := Lib.hid s7.drew
            have T7 := Lib.hid t7.drew
            have HROW7 := Lib.hid hrow7
            clear r7 s7 t7 hrow7
            generalize hcc : bl.getD j 0 = c at *
            have HCC := Lib.hid hcc
            clear hcc
            have HCW : Hid (∀ w', Only (fun _ => False) w7.drew w' → w'.cell? ⟨wb, 8 + j, none⟩ = some (.int .u8 (c.toNat : Int))) := fun w' hr => by
              have h1 : w7.drew.heap[wb]? = some (.cells (bvs (al ++ bl)) 42 (0, 0)) := HROW7.out
              have h2 := bvs_cell (hr.keeps h1 (fun h => h)) (j := 8 + j) (by rw [List.length_append, HRA.out.wlen, HRB.out.wlen]; omega)
              rw [show (al ++ bl).getD (8 + j) 0 = c from by rw [List.getD_eq_getElem?_getD, show 8 + j = al.length + j from by rw [HRA.out.wlen], List.getElem?_append_right (by omega), show al.length + j - al.length = j from by omega, ← List.getD_eq_getElem?_getD]; exact HCC.out] at h2
              exact h2
            refine wp_region_grow (Only (fun _ => False)) (fun | 9 => some (fun v w' => ∃ b, v = .slice (some ⟨b, 0, none⟩) 64 64 ∧ RowAt w' ⟨b, 0, none⟩ (blockOf c)) | _ => none) (by kernel_rfl) (by kernel_rfl) (Only.refl _) (fun _ _ _ => Only.trans) ?_ ?_
            · intro i V hV v w1 w2 hr hv
              split at hV
              · cases hV
                obtain ⟨b, hb, hrow⟩ := hv
                exact ⟨b, hb, hrow.grow hr (by simp [blockOf])⟩
              · cases hV
            simp only [List.zipIdx_cons, List.zipIdx_nil, Nat.zero_add, Nat.reduceAdd]
            iterate 4 (refine grow_det ?_ rfl (fun w' => ?_) ?_; rotate_left 1; (unfold Runs; go_simp; rfl); try simp only [Act.put, List.setIfInBounds_toArray, List.set_cons_zero, List.set_cons_succ])
            refine grow_read (.string (strOf (blockOf c))) rfl (fun w' hr hf => ?_) ?_
            · have h1 := conv_any (blockOf c) (blockOf_length c) b7 w' (R7.out.grow hr (by simp [blockOf]))
              unfold Runs
              go_simp
            simp only [Act.put, List.setIfInBounds_toArray, List.set_cons_zero, List.set_cons_succ]
            iterate 3 (refine grow_det ?_ rfl (fun w' => ?_) ?_; rotate_left 1; (unfold Runs; go_simp; rfl); try simp only [Act.put, List.setIfInBounds_toArray, List.set_cons_zero, List.set_cons_succ])
            refine grow_read (.int .u8 (c.toNat : Int)) rfl (fun w' hr hf => ?_) ?_
            · have h1 := HCW.out w' hr
              unfold Runs
              go_simp
            simp only [Act.put, List.setIfInBounds_toArray, List.set_cons_zero, List.set_cons_succ]
            refine grow_pred _ rfl (fun w' hr hf => ?_) (fun v => ?_)
            · have h1 := S7.out.same hr
              unfold Gives gives
              go_simp
              refine (full_st h1 c _ rfl).mono ?_
              rintro e w14 ⟨b6, rfl, r6, -, o14, -⟩
              exact ⟨_, rfl, o14, b6, rfl, r6⟩
            simp only [Act.put, List.setIfInBounds_toArray, List.set_cons_zero, List.set_cons_succ]
            refine grow_read (.string (strOf (blockOf c))) rfl (fun w' hr hf => ?_) ?_
            · have h1 := hf 9 (by kernel_rfl)
              rw [upd_self] at h1
              obtain ⟨b6, rfl, r6⟩ := h1
              have h2 := conv_any (blockOf c) (blockOf_length c) b6 w' r6
              unfold Runs
              go_simp
            simp only [Act.put, List.setIfInBounds_toArray, List.set_cons_zero, List.set_cons_succ]
            iterate 2 (refine grow_det ?_ rfl (fun w' => ?_) ?_; rotate_left 1; (unfold Runs; go_simp; rfl); try simp only [Act.put, List.setIfInBounds_toArray, List.set_cons_zero, List.set_cons_succ])
            refine grow_end (fun w8 hr hf => ?_)
            clear hf
            have S8 := Lib.hid (S7.out.same hr)
            have T8 := Lib.hid (T7.out.same hr)
            have HR8 := Lib.hid (hr.keeps (w := w7.drew) HROW7.out (fun h => h))
            clear hr
            go_wp2_with fail
            go_roundw
            case rel => exact ⟨j + 1, by omega, by go_num, S8.out, T8.out, HR8.out⟩
            case measure => simp [intOf]; omega
          · go_wp2_with fail
            refine (boot_st HT.out).mono ?_
            rintro e w12 ⟨rfl, s12, o12⟩
            have t12 := keep2 HS.out s12 o12 Q.out
            have r12 := o12.keeps HR.out (fun h => by rcases h with h | h; exact hwp h; exact hwr h)
            have HRA := HRD
            clear SX TX RX HS HT HR o12
            have SX := Lib.hid s12
            have TX := Lib.hid t12
            have RX := Lib.hid r12
            clear s12 t12 r12 HRD
            go_wp2_with fail
            go_loopw [18] (fun i wr => ∃ j : Nat, j ≤ 8 ∧ i = .int .i64 j ∧ DSt w.heap.size w wr p r D3.booted ∧ DSt w.heap.size w wr p2 r2 D2 ∧ wr.heap[wb]? = some (.cells (bvs (al ++ bl)) 42 (0, 0))) (fun i _ => 8 - (intOf i).toNat)
            case atStart => exact ⟨0, by omega, rfl, SX.out, TX.out, RX.out⟩
            case round =>
              obtain ⟨j, hj, rfl, hs, ht, hrow⟩ := hrel
              have HS := Lib.hid hs
              have HT := Lib.hid ht
              have HR := Lib.hid hrow
              clear hs ht hrow
              by_cases hj8 : j < 8
              · have HCJ := Lib.hid (HRA.out.code j hj8)
                have HG := Lib.hid (HRA.out.get j hj8)
                go_wp2_with fail
                refine (read_st HS.out j HCJ.out).mono ?_
                rw [HG.out]
                rintro e w7 ⟨b7, rfl, r7, -, s7, o7, -⟩
                have hrow7 := o7.keeps HR.out (fun h => h)
                have t7 := HT.out.same o7
                clear o7
                go_wp2_with fail
                have R7 := Lib.hid r7.drew
                have S7 := Lib.hid s7.drew
                have T7 := Lib.hid t7.drew
                have HROW7 := Lib.hid hrow7
                clear r7 s7 t7 hrow7
                generalize hcc : al.getD j 0 = c at *
                have HCC := Lib.hid hcc
                clear hcc
                have HCW : Hid (∀ w', Only (fun _ => False) w7.drew w' → w'.cell? ⟨wb, j, none⟩ = some (.int .u8 (c.toNat : Int))) := fun w' hr => by
                  have h1 : w7.drew.heap[wb]? = some (.cells (bvs (al ++ bl)) 42 (0, 0)) := HROW7.out
                  have h2 := bvs_cell (hr.keeps h1 (fun h => h)) (j := j) (by rw [List.length_append, HRA.out.wlen, HRB.out.wlen]; omega)
                  rw [show (al ++ bl).getD (j) 0 = c from by rw [List.getD_eq_getElem?_getD, List.getElem?_append_left (by rw [HRA.out.wlen]; omega), ← List.getD_eq_getElem?_getD]; exact HCC.out] at h2
                  exact h2
                refine wp_region_grow (Only (fun _ => False)) (fun | 9 => some (fun v w' => ∃ b, v = .slice (some ⟨b, 0, none⟩) 64 64 ∧ RowAt w' ⟨b, 0, none⟩ (blockOf c)) | _ => none) (by kernel_rfl) (by kernel_rfl) (Only.refl _) (fun _ _ _ => Only.trans) ?_ ?_
                · intro i V hV v w1 w2 hr hv
                  split at hV
                  · cases hV
                    obtain ⟨b, hb, hrow⟩ := hv
                    exact ⟨b, hb, hrow.grow hr (by simp [blockOf])⟩
                  · cases hV
                simp only [List.zipIdx_cons, List.zipIdx_nil, Nat.zero_add, Nat.reduceAdd]
                iterate 4 (refine grow_det ?_ rfl (fun w' => ?_) ?_; rotate_left 1; (unfold Runs; go_simp; rfl); try simp only [Act.put, List.setIfInBounds_toArray, List.set_cons_zero, List.set_cons_succ])
                refine grow_read (.string (strOf (blockOf c))) rfl (fun w' hr hf => ?_) ?_
                · have h1 := conv_any (blockOf c) (blockOf_length c) b7 w' (R7.out.grow hr (by simp [blockOf]))
                  unfold Runs
                  go_simp
                simp only [Act.put, List.setIfInBounds_toArray, List.set_cons_zero, List.set_cons_succ]
                iterate 3 (refine grow_det ?_ rfl (fun w' => ?_) ?_; rotate_left 1; (unfold Runs; go_simp; rfl); try simp only [Act.put, List.setIfInBounds_toArray, List.set_cons_zero, List.set_cons_succ])
                refine grow_read (.int .u8 (c.toNat : Int)) rfl (fun w' hr hf => ?_) ?_
                · have h1 := HCW.out w' hr
                  unfold Runs
                  go_simp
                simp only [Act.put, List.setIfInBounds_toArray, List.set_cons_zero, List.set_cons_succ]
                refine grow_pred _ rfl (fun w' hr hf => ?_) (fun v => ?_)
                · have h1 := S7.out.same hr
                  unfold Gives gives
                  go_simp
                  refine (full_st h1 c _ rfl).mono ?_
                  rintro e w14 ⟨b6, rfl, r6, -, o14, -⟩
                  exact ⟨_, rfl, o14, b6, rfl, r6⟩
                simp only [Act.put, List.setIfInBounds_toArray, List.set_cons_zero, List.set_cons_succ]
                refine grow_read (.string (strOf (blockOf c))) rfl (fun w' hr hf => ?_) ?_
                · have h1 := hf 9 (by kernel_rfl)
                  rw [upd_self] at h1
                  obtain ⟨b6, rfl, r6⟩ := h1
                  have h2 := conv_any (blockOf c) (blockOf_length c) b6 w' r6
                  unfold Runs
                  go_simp
                simp only [Act.put, List.setIfInBounds_toArray, List.set_cons_zero, List.set_cons_succ]
                iterate 2 (refine grow_det ?_ rfl (fun w' => ?_) ?_; rotate_left 1; (unfold Runs; go_simp; rfl); try simp only [Act.put, List.setIfInBounds_toArray, List.set_cons_zero, List.set_cons_succ])
                refine grow_end (fun w8 hr hf => ?_)
                clear hf
                have S8 := Lib.hid (S7.out.same hr)
                have T8 := Lib.hid (T7.out.same hr)
                have HR8 := Lib.hid (hr.keeps (w := w7.drew) HROW7.out (fun h => h))
                clear hr
                go_wp2_with fail
                go_roundw
                case rel => exact ⟨j + 1, by omega, by go_num, S8.out, T8.out, HR8.out⟩
                case measure => simp [intOf]; omega
              · go_wp2_with fail
                go_ret
                exact ⟨rfl, HS.out.below⟩

/-! ### THE ROW's STEP -/
set_option maxRecDepth 100000 in
theorem lifted (os : Os) (started : os.Started) (H : Type) (enc : TypeId × Value → H) :
    ReturnsInHanded {} Try.checked os 6 .any (Rows.diskApartSpec.pre6 enc Try.prog Try.f6 Rows.diskApartRow.domain false) (Rows.diskApartSpec.post enc Try.prog Try.f6 false true false false) := by
  refine returnsInHanded_of_change (C := Try.checked) own started (by kernel_rfl) Try.func6
    (ChangeSpec.witness6 (enc := enc) (C := Try.checked) false ⟨#[], #[.slice none 0 0, .slice none 0 0, .slice none 0 0], []⟩ 8 (by kernel_rfl) (by kernel_rfl) (by kernel_rfl) (by kernel_rfl)) ?_
  intro W base args ds gs before hval0 hW hcnd _
  have hval : ∀ (j : Nat) t v, Try.f6.params[j]? = some t → args[j]? = some v → Value.okWide Try.prog W .any base t v := hval0
  have hW' := hW
  obtain ⟨p, q, hA0, hV, rfl, hfz, hnd⟩ := hW
  have hA : DataW.TrodAll enc Try.prog W 0 (fun _ => true) true Try.f6.params.toList args.toList ds p := hA0
  rw [Try.params6] at hA hval
  obtain ⟨v0, vs0, d0, ds0, p0, q0, hargs, rfl, rfl, h0, r0⟩ := trodAll_cons hA
  obtain ⟨v1, vs1, d1, ds1, p1, q1, rfl, rfl, rfl, h1, r1⟩ := trodAll_cons r0
  obtain ⟨v2, vs2, d2, ds2, p2, q2, rfl, rfl, rfl, h2, r2⟩ := trodAll_cons r1
  obtain ⟨rfl, rfl, rfl⟩ := trodAll_nil r2
  obtain rfl : args = #[v0, v1, v2] := by cases args; simp_all
  obtain ⟨rfl, rfl⟩ := trodVars_none hV
  obtain ⟨a0, len0, cap0, rfl⟩ := okWide_slice Try.underlying22 (hval 0 22 v0 rfl rfl)
  have k0 := h0
  have lt0 : ∀ x ∈ p0, x.block < W.heap.size := by obtain ⟨m, hm⟩ := k0; exact DataW.trod_lt m _ _ _ hm
  have w0 : BytesArg W a0 len0 := by
    obtain ⟨fuel, hf⟩ := h0
    exact bytes_open hf
  obtain ⟨a1, len1, cap1, rfl⟩ := okWide_slice Try.underlying22 (hval 1 22 v1 rfl rfl)
  have k1 := h1
  have lt1 : ∀ x ∈ p1, x.block < W.heap.size := by obtain ⟨m, hm⟩ := k1; exact DataW.trod_lt m _ _ _ hm
  have w1 : BytesArg W a1 len1 := by
    obtain ⟨fuel, hf⟩ := h1
    exact bytes_open hf
  obtain ⟨a2, len2, cap2, rfl⟩ := okWide_slice Try.underlying22 (hval 2 22 v2 rfl rfl)
  have k2 := h2
  have lt2 : ∀ x ∈ p2, x.block < W.heap.size := by obtain ⟨m, hm⟩ := k2; exact DataW.trod_lt m _ _ _ hm
  have w2 : BytesArg W a2 len2 := by
    obtain ⟨fuel, hf⟩ := h2
    exact bytes_open hf
  clear hA0 hval0
  refine (walk a0 len0 cap0 a1 len1 cap1 a2 len2 cap2 W w0 w1 w2).mono fun e W' ⟨he, bel⟩ => ?_
  subst he
  exact ⟨_, rfl, _, _, _, [], _, [], hW', trodAll_mk1 (shut_bool Try.underlying4 _), (trodAll_cons_mk (Below.trod laidOut (by kernel_rfl) (of_decide_eq_true (by kernel_rfl)) k0 bel lt0) (trodAll_cons_mk (Below.trod laidOut (by kernel_rfl) (of_decide_eq_true (by kernel_rfl)) k1 bel lt1) (trodAll_cons_mk (Below.trod laidOut (by kernel_rfl) (of_decide_eq_true (by kernel_rfl)) k2 bel lt2) trodAll_mk0))), rfl, bel.frame _, fun h => by cases h⟩

theorem over : Rows.diskApartRow.holds Try.pinned (OpenSpec.ofChange Rows.diskApartSpec) :=
  OpenClaim.holds_of_wide 6 Try.f6 rfl rfl rfl rfl rfl rfl rfl ⟨rfl, rfl, rfl, rfl, rfl⟩ rfl rfl rfl rfl rfl (by kernel_rfl) Try.func6 (by kernel_rfl)
    (of_decide_eq_true (by kernel_rfl)) (by unfold Func.isWrapper; first | (rw [if_pos (by decide +kernel)]; kernel_rfl) | (rw [if_neg (by decide +kernel)]; exact ⟨rfl, rfl⟩))
    (fun os started H enc _ => lifted os started H enc)

theorem proved : Rows.DiskApartSaid := over
#print axioms proved
end Go.Proofs.Ytlieijnhlfedmaa.diskApart
