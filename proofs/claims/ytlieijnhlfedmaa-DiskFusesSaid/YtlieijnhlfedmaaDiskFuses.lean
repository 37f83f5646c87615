/- DiskFuses: with a fuse just so many of the writes that come are done, and those that come behind change nothing: for any bytes and any fuse (no condition). -/
import Derived.Test.YtlieijnhlfedmaaRows
import Derived.Test.YtlieijnhlfedmaaDiskLaw
import Derived.ProofKit
import Derived.OpenShut
import Derived.ShutString
import Derived.ChangeOld
namespace Go.Proofs.Ytlieijnhlfedmaa.diskFuses
open Go.ChangeShapes Go.WideShapes Go.ChangeAt Go.RowKit
open Go.ChangeMaps (open_string shut_string)
set_option linter.unusedVariables false

theorem own : ownKnob Try.prog.godebug = none := by kernel_rfl
theorem laidOut : laidOutB Try.prog = true := by kernel_rfl

def IsRow (k : IntKind) (w : World) (a : Option Addr) (len cap : Nat) (zs : List Int) : Prop :=
  (a = none ∧ len = 0 ∧ cap = 0 ∧ zs = []) ∨
  ∃ x, a = some x ∧ len ≤ cap ∧ cap ≤ maxLen ∧ zs.length = cap ∧ (∀ i, i < zs.length → w.cell? (x.add i) = some (.int k (zs.getD i 0))) ∧ ∀ n ∈ zs, (Lit.int k n).wf = true

/-- The k-th byte. -/
def byteAt (zs : List Int) (k : Nat) : UInt8 := UInt8.ofNat (zs.getD k 0).toNat
theorem byte_cell {w : World} {a : Option Addr} {len cap : Nat} {zs : List Int} (h : IsRow .u8 w a len cap zs) {k : Nat} (hk : k < len) :
    ∃ x, a = some x ∧ w.cell? (x.add k) = some (bv (byteAt zs k)) ∧ x.block < w.heap.size := by
  rcases h with ⟨_, h, _⟩ | ⟨x, ha, hl, hm, hz, hc, hw⟩
  · omega
  · have hlt : k < zs.length := by omega
    have hm := hw (zs.getD k 0) (by rw [List.getD_eq_getElem?_getD, List.getElem?_eq_getElem hlt]; simp)
    have hb : 0 ≤ zs.getD k 0 ∧ zs.getD k 0 ≤ 255 := by simpa [Lit.wf, IntKind.min, IntKind.max, IntKind.signed, IntKind.bits] using hm
    have he : ((byteAt zs k).toNat : Int) = zs.getD k 0 := by
      unfold byteAt
      rw [UInt8.toNat_ofNat']
      omega
    have hcell := hc k hlt
    refine ⟨x, ha, by rw [hcell]; unfold bv; rw [he], ?_⟩
    have := block_lt_of_cell hcell
    rwa [add_block] at this

/-- How the disk stands behind k writes, and what the rows are to be. -/
def zeros16 : List UInt8 := List.replicate 16 0

structure Rel (n : Int) (k : Nat) (D : DK) (wl : List UInt8) : Prop where
  len : D.len = 16
  off : D.off = decide (n < k)
  fuse : D.fuse = if n < k then -1 else n - k
  writes : D.writes = if n < k then n else k
  wlen : wl.length = 16
  get : ∀ j : Nat, j < 16 → D.get j = blockOf (wl.getD j 0)

/-- Behind the boot. -/
structure Rel' (D : DK) (wl : List UInt8) : Prop where
  len : D.len = 16
  off : D.off = false
  wlen : wl.length = 16
  get : ∀ j : Nat, j < 16 → D.get j = blockOf (wl.getD j 0)

theorem Rel.start (n : Int) (hn : 0 ≤ n) : Rel n 0 ((⟨16, false, -1, 0, fun _ => none⟩ : DK).fused n) zeros16 := by
  unfold zeros16
  have h1 : ¬ n < -1 := by omega
  have h2 : ¬ n < 0 := by omega
  refine ⟨rfl, ?_, ?_, ?_, by simp, fun j hj => ?_⟩
  · simp [DK.fused, h2]
  · simp [DK.fused, h1, h2]
  · simp [DK.fused, h2]
  · have : (List.replicate 16 (0 : UInt8)).getD j 0 = 0 := by
      rw [List.getD_eq_getElem?_getD, List.getElem?_replicate, if_pos hj]; rfl
    rw [this]
    rfl

theorem Rel.code {n : Int} {k : Nat} {D : DK} {wl : List UInt8} (h : Rel n k D wl) (j : Nat) (hj : j < 16) : D.code j = if n < k then 2 else 0 := by
  unfold DK.code
  rw [h.off, h.len]
  by_cases hn : n < k
  · simp [hn]
  · have : ¬ ((j : Int) < 0 ∨ (16 : Int) ≤ j) := by omega
    simp [hn, this]

theorem Rel.next_on {n : Int} {k : Nat} {D : DK} {wl : List UInt8} (h : Rel n k D wl) (hk : (k : Int) < n) (c : UInt8) :
    (D.write ((k % 16 : Nat) : Int) (blockOf c)).2 = 0 ∧ Rel n (k + 1) (D.write ((k % 16 : Nat) : Int) (blockOf c)).1 (wl.set (k % 16) c) := by
  have hc := h.code (k % 16) (Nat.mod_lt _ (by omega))
  have hn : ¬ n < k := by omega
  rw [if_neg hn] at hc
  have hf : ¬ D.fuse = 0 := by rw [h.fuse, if_neg hn]; omega
  have e : D.write ((k % 16 : Nat) : Int) (blockOf c) = (D.wrote ((k % 16 : Nat) : Int) (blockOf c), 0) := by
    unfold DK.write
    rw [if_neg (by rw [hc]; simp), if_neg (by simp [blockOf_length]), if_neg hf]
  rw [e]
  have hn' : ¬ n < ((k + 1 : Nat) : Int) := by omega
  refine ⟨rfl, h.len, ?_, ?_, ?_, by simp [h.wlen], fun j hj => ?_⟩
  · simp only [DK.wrote, h.off, hn, hn']
  · simp only [DK.wrote, h.fuse, hn, hn', if_false]
    rw [if_pos (by omega)]
    omega
  · simp only [DK.wrote, h.writes, hn, hn', if_false]
    omega
  · have hg := h.get j hj
    unfold DK.get at hg ⊢
    simp only [DK.wrote]
    by_cases hjk : j = k % 16
    · subst hjk
      rw [if_pos rfl]
      simp only [Option.getD_some]
      rw [List.getD_eq_getElem?_getD, List.getElem?_set_self (by rw [h.wlen]; omega)]
      rfl
    · rw [if_neg (by omega), hg]
      rw [List.getD_eq_getElem?_getD, List.getD_eq_getElem?_getD, List.getElem?_set_ne (fun e => hjk e.symm)]

theorem Rel.next_off {n : Int} {k : Nat} {D : DK} {wl : List UInt8} (h : Rel n k D wl) (hk : n ≤ (k : Int)) (c : UInt8) :
    (D.write ((k % 16 : Nat) : Int) (blockOf c)).2 = 2 ∧ Rel n (k + 1) (D.write ((k % 16 : Nat) : Int) (blockOf c)).1 wl := by
  have hc := h.code (k % 16) (Nat.mod_lt _ (by omega))
  have hn' : n < ((k + 1 : Nat) : Int) := by omega
  by_cases hn : n < k
  · rw [if_pos hn] at hc
    have e : D.write ((k % 16 : Nat) : Int) (blockOf c) = (D, 2) := by
      unfold DK.write
      rw [if_pos (by rw [hc]; simp), hc]
    rw [e]
    refine ⟨rfl, h.len, ?_, ?_, ?_, h.wlen, h.get⟩
    · rw [h.off]; simp only [hn, hn']
    · rw [h.fuse, if_pos hn, if_pos hn']
    · rw [h.writes, if_pos hn, if_pos hn']
  · rw [if_neg hn] at hc
    have hf : D.fuse = 0 := by rw [h.fuse, if_neg hn]; omega
    have e : D.write ((k % 16 : Nat) : Int) (blockOf c) = (D.blown, 2) := by
      unfold DK.write
      rw [if_neg (by rw [hc]; simp), if_neg (by simp [blockOf_length]), if_pos hf]
    rw [e]
    refine ⟨rfl, h.len, ?_, ?_, ?_, h.wlen, h.get⟩
    · simp only [DK.blown, hn', decide_true]
    · simp only [DK.blown, hn', if_true]
    · simp only [DK.blown, h.writes, hn, hn', if_true, if_false]
      omega

theorem Rel.fine {n : Int} {k : Nat} {D : DK} {wl : List UInt8} (h : Rel n k D wl) (hn : 0 ≤ n) (hn2 : n < 20) : D.fine := by
  refine ⟨?_, ?_, ?_⟩
  · rw [h.fuse]; split <;> omega
  · rw [h.writes]; split <;> omega
  · rw [h.writes]; split <;> omega

set_option maxRecDepth 100000 in
set_option maxHeartbeats 2000000 in
theorem walk (a0 : Option Addr) (len0 cap0 : Nat) (z0 : List Int) (a1 : Int) (w : World) (w0 : IsRow .u8 w a0 len0 cap0 z0) (w1 : (Lit.int .i64 a1).wf = true) :
    Calls Try.prog 3 #[.slice a0 len0 cap0, .int .i64 a1] w fun e w' => e = .returned (.bool true) ∧ Below w.heap.size w w' := by
  have hb1 : -9223372036854775808 ≤ a1 ∧ a1 ≤ 9223372036854775807 := by simpa [Lit.wf, IntKind.min, IntKind.max, IntKind.signed, IntKind.bits] using w1
  have hlen : len0 ≤ 9223372036854775807 := by
    rcases w0 with ⟨_, h, _⟩ | ⟨x, _, hl, hm, _⟩
    · omega
    · unfold maxLen at hm; omega
  have hk := kindOf_range a1 20 (by omega)
  have hmk : ∀ w, (Instr.makeSlice 22 (.int .i64 16) (.int .i64 16)).run Try.prog w = .ok (.slice (some ⟨w.heap.size, 0, none⟩) 16 16) (w.alloc (.cells (bvs zeros16) 5)) := fun w => by kernel_rfl
  have hkc := fun w => kind_calls w a1 20 hb1.1 hb1.2 (by omega) (by omega)
  generalize kindOf a1 20 = n at *
  have HK := Lib.hid hkc
  clear hkc
  go_enter Try.func3, Try.ntmps3
  go_wp2_with fail
  refine (shown_calls w).mono ?_
  rintro e w1 ⟨rfl, hb⟩
  have HB := Lib.hid hb
  clear hb
  go_wp2_with fail
  refine (new_st w.heap.size w w1 16 (by omega) (by omega) HB.out.size HB.out).mono ?_
  rintro e w2 ⟨p, r, rfl, s1, -, -, -⟩
  go_wp2_with fail
  refine (HK.out _).mono ?_
  rintro e w3 ⟨rfl, rfl⟩
  go_wp2_with fail
  refine (fuse_st s1 n).mono ?_
  rintro e w3 ⟨rfl, s2, -⟩
  clear s1
  go_upto_block 0 with (fail)
  obtain ⟨wb, hwb⟩ : ∃ wb, wb = w3.heap.size := ⟨_, rfl⟩
  obtain ⟨w4, hw4⟩ : ∃ w4, w4 = w3.alloc (.cells (bvs zeros16) 5) := ⟨_, rfl⟩
  rw [← hwb, ← hw4]
  have o4 : Only (fun _ => False) w3 w4 := by rw [hw4]; exact (Only.refl _ _).alloc _
  have s4 := s2.same o4
  have hrow4 : w4.heap[wb]? = some (.cells (bvs zeros16) 5 (0, 0)) := by rw [hw4, hwb, heap_alloc_new]
  have hwp : wb ≠ p := by have := lt_of_heap s2.disk.cells; omega
  have hwr : wb ≠ r := by obtain ⟨es, c, hm, _⟩ := s2.disk.map; have := lt_of_heap hm; omega
  have hwB : w.heap.size ≤ wb := by rw [hwb]; exact s2.hB
  have S4 := Lib.hid s4
  have R4 := Lib.hid hrow4
  clear s2 s4 o4 hrow4 hw4 hwb
  go_cut [10] (fun _ wr => ∃ (k : Nat) (wl : List UInt8) (D : DK), (k = len0 ∧ k ≤ 40 ∨ k = 40 ∧ k ≤ len0) ∧ Rel n k D wl ∧ DSt w.heap.size w wr p r D ∧ wr.heap[wb]? = some (.cells (bvs wl) 5 (0, 0)))
  case first =>
   go_wp2_with fail
   go_loopw [10] (fun i wr => ∃ (k : Nat) (wl : List UInt8) (D : DK), k ≤ len0 ∧ k ≤ 40 ∧ i = .int .i64 k ∧ Rel n k D wl ∧ DSt w.heap.size w wr p r D ∧ wr.heap[wb]? = some (.cells (bvs wl) 5 (0, 0))) (fun i _ => 40 - (intOf i).toNat)
   case atStart => exact ⟨0, zeros16, _, Nat.zero_le _, Nat.zero_le _, rfl, Rel.start n hk.1, S4.out, R4.out⟩
   case round =>
     obtain ⟨k, wl, D, hkl, hk40, rfl, hrel, hst, hrow⟩ := hrel
     have HREL := Lib.hid hrel
     have HST := Lib.hid hst
     have HROW := Lib.hid hrow
     clear hrel hst hrow
     by_cases hgo : k < len0 ∧ k < 40
     · obtain ⟨hlt, hlt40⟩ := hgo
       obtain ⟨x, rfl, hc, hxl⟩ := byte_cell w0 hlt
       have hcr : wr.cell? (x.add k) = some (bv (byteAt z0 k)) := by
         rw [← hc]
         exact HST.out.below.cell (by rw [add_block]; exact hxl)
       have HC := Lib.hid hcr
       generalize byteAt z0 k = c at *
       clear hc
       unfold bv at hcr
       have hmod : ((k : Int) % 16) = ((k % 16 : Nat) : Int) := by omega
       have HM := Lib.hid hmod
       clear hmod
       go_wp2_with fail
       refine (full_st HST.out c _ rfl).mono ?_
       rintro e w5 ⟨fb, rfl, fr, s5, o5, -⟩
       have hrow5 := o5.keeps HROW.out (fun h => h)
       by_cases hkn : (k : Int) < n
       · go_wp2_with fail
         rw [HM.out]
         refine (write_st s5 _ _ _ 64 64 (blockOf_length c) (.of_row fr) (HREL.out.fine hk.1 hk.2)).mono ?_
         obtain ⟨e1, e2⟩ := HREL.out.next_on hkn c
         generalize D.write ((k % 16 : Nat) : Int) (blockOf c) = DD at *
         obtain ⟨D', code⟩ := DD
         simp only at e1 e2
         subst e1
         rintro e w6 ⟨rfl, s6, o6⟩
         have hrow6 := o6.keeps hrow5 (fun h => by rcases h with h | h; exact hwp h; exact hwr h)
         have hoff : (!D'.off) = true := by rw [e2.off]; simp; omega
         have E2 := Lib.hid e2
         have hc6 : w6.cell? (x.add k) = some (.int .u8 (c.toNat : Int)) := by
           have h := s6.below.cell (p := x.add k) (by rw [add_block]; exact hxl)
           rw [h, ← HST.out.below.cell (p := x.add k) (by rw [add_block]; exact hxl)]
           exact HC.out
         have hcw : w6.cell? ⟨wb, k % 16, none⟩ = some (bv (wl.getD (k % 16) 0)) := by
           rw [cellOf hrow6, bvs_get, List.getD_eq_getElem?_getD]
           rw [List.getElem?_eq_getElem (by rw [HREL.out.wlen]; omega)]
           rfl
         have hfw := freeOf hrow6 (k % 16)
         have HROW6 := Lib.hid hrow6
         clear e2 fr s5 o5 o6 hrow5 hcr hrow6
         go_wp2_with fail
         refine (on_st s6).mono ?_
         rw [hoff]
         rintro e w7 ⟨rfl, rfl⟩
         go_wp2_with fail
         go_roundw
         case rel =>
           refine ⟨k + 1, wl.set (k % 16) c, D', by omega, by omega, by go_num, E2.out, ?_, ?_⟩
           · exact s6.put wb _ _ hwB hwp hwr
           · rw [heap_setCell_same w6 wb (k % 16) _ _ _ HROW6.out, ← bvs_set]
             rfl
         case measure => simp [intOf]; omega
       · go_wp2_with fail
         rw [HM.out]
         refine (write_st s5 _ _ _ 64 64 (blockOf_length c) (.of_row fr) (HREL.out.fine hk.1 hk.2)).mono ?_
         obtain ⟨e1, e2⟩ := HREL.out.next_off (by omega) c
         generalize D.write ((k % 16 : Nat) : Int) (blockOf c) = DD at *
         obtain ⟨D', code⟩ := DD
         simp only at e1 e2
         subst e1
         rintro e w6 ⟨rfl, s6, o6⟩
         have hrow6 := o6.keeps hrow5 (fun h => by rcases h with h | h; exact hwp h; exact hwr h)
         have hoff : (!D'.off) = false := by rw [e2.off]; simp; omega
         have E2 := Lib.hid e2
         have HROW6 := Lib.hid hrow6
         clear e2 fr s5 o5 o6 hrow5 hcr hrow6
         go_wp2_with fail
         refine (on_st s6).mono ?_
         rw [hoff]
         rintro e w7 ⟨rfl, rfl⟩
         go_wp2_with fail
         go_roundw
         case rel => exact ⟨k + 1, wl, D', by omega, by omega, by go_num, E2.out, s6, HROW6.out⟩
         case measure => simp [intOf]; omega
     · have hstop : len0 ≤ k ∨ (k < len0 ∧ 40 ≤ k) := by omega
       clear hgo
       rcases hstop with hstop | ⟨hstop, hstop2⟩
       · go_wp2_with fail
         go_meet
         case rel => exact ⟨k, wl, D, by omega, HREL.out, HST.out, HROW.out⟩
       · go_wp2_with fail
         go_meet
         case rel => exact ⟨k, wl, D, by omega, HREL.out, HST.out, HROW.out⟩
  case rest =>
    obtain ⟨k, wl, D, hkk, hrel, hst, hrow⟩ := hcut
    have hcode : D.code 0 = if n < k then 2 else 0 := hrel.code 0 (by omega)
    have hread : Calls Try.prog 15 #[.pointer (some ⟨p, 0, none⟩), .int .i64 0] wc fun e w' => ∃ v, e = .returned (.tuple #[v, .int .i64 (if n < k then 2 else 0)]) ∧ DSt w.heap.size w w' p r D ∧ Only (fun _ => False) wc w' := by
      by_cases hnk : n < k
      · rw [if_pos hnk] at hcode
        rw [if_pos hnk]
        refine (read_no wc p r D 0 hst.disk (by rw [hcode]; decide)).mono ?_
        rintro e w' ⟨rfl, rfl⟩
        exact ⟨_, by rw [hcode], hst, Only.refl _ _⟩
      · rw [if_neg hnk] at hcode
        rw [if_neg hnk]
        refine (read_st hst 0 hcode).mono ?_
        rintro e w' ⟨b, rfl, -, -, s, o, -⟩
        exact ⟨_, rfl, s, o⟩
    have HREAD := Lib.hid hread
    have hon : (!D.off) = !decide (n < k) := by rw [hrel.off]
    have hboot : Rel' D.booted wl := ⟨hrel.len, rfl, hrel.wlen, hrel.get⟩
    have hwr' := hrel.writes
    have HROW := Lib.hid hrow
    have HST := Lib.hid hst
    have HBT := Lib.hid hboot
    clear hread hcode hrel hst hrow hboot
    by_cases hnk : n < k
    · rw [show (!decide (n < (k : Int))) = false by simpa using hnk] at hon
      rw [if_pos hnk] at hwr'
      have HW := Lib.hid hwr'
      have hr2 := HREAD.out
      rw [if_pos hnk] at hr2
      have HR2 := Lib.hid hr2
      clear hr2 hwr' HREAD
      have hmin : (n != min (min n (len0 : Int)) 40) = false := by
        rw [bne_eq_false_iff_eq]; omega
      have hb1 : n ≤ len0 := by omega
      have hb2 : n ≤ 40 := by omega
      clear hkk
      go_wp2_with fail
      refine HR2.out.mono ?_
      rintro e w5 ⟨v, rfl, s5, o5⟩
      have HROW5 := Lib.hid (o5.keeps HROW.out (fun h => h))
      clear o5
      go_wp2_with fail
      refine (on_st s5).mono ?_
      rw [hon]
      rintro e w6 ⟨rfl, rfl⟩
      go_wp2_with fail
      refine (writes_st s5).mono ?_
      rw [HW.out]
      rintro e w6 ⟨rfl, rfl⟩
      go_wp2_with fail
      refine (boot_st s5).mono ?_
      rintro e w6 ⟨rfl, s6, o6⟩
      have HROW6 := Lib.hid (o6.keeps HROW5.out (fun h => by rcases h with h | h; exact hwp h; exact hwr h))
      clear o6 s5
      generalize D.booted = DD at *
      have HS6 := Lib.hid s6
      clear s6
      go_wp2_with fail
      go_loopw [14] (fun i wr => ∃ j : Nat, j ≤ 16 ∧ i = .int .i64 j ∧ DSt w.heap.size w wr p r DD ∧ wr.heap[wb]? = some (.cells (bvs wl) 5 (0, 0))) (fun i _ => 16 - (intOf i).toNat)
      case atStart => exact ⟨0, by omega, rfl, HS6.out, HROW6.out⟩
      case round =>
        obtain ⟨j, hj, rfl, hs, hrow⟩ := hrel
        have HS := Lib.hid hs
        have HR := Lib.hid hrow
        clear hs hrow
        by_cases hj16 : j < 16
        · have hcj : DD.code j = 0 := by
            unfold DK.code
            rw [HBT.out.off, HBT.out.len]
            have : ¬ ((j : Int) < 0 ∨ (16 : Int) ≤ j) := by omega
            simp [this]
          have hg := HBT.out.get j hj16
          have HCJ := Lib.hid hcj
          have HG := Lib.hid hg
          clear hcj hg
          go_wp2_with fail
          refine (read_st HS.out j HCJ.out).mono ?_
          rw [HG.out]
          rintro e w7 ⟨b7, rfl, r7, -, s7, o7, -⟩
          have hrow7 := o7.keeps HR.out (fun h => h)
          clear o7
          go_wp2_with fail
          have HROW7 := Lib.hid hrow7
          clear hrow7
          generalize hcc : wl.getD j 0 = c at *
          have HCC := Lib.hid hcc
          clear hcc
          have HCW : Hid (∀ w', Only (fun _ => False) w7.drew w' → w'.cell? ⟨wb, j, none⟩ = some (.int .u8 (c.toNat : Int))) := fun w' hr => by
            have h1 : w7.drew.heap[wb]? = some (.cells (bvs wl) 5 (0, 0)) := HROW7.out
            rw [cellOf (hr.keeps h1 (fun h => h)), bvs_get, List.getElem?_eq_getElem (by rw [HBT.out.wlen]; omega)]
            rw [← HCC.out, List.getD_eq_getElem?_getD, List.getElem?_eq_getElem (by rw [HBT.out.wlen]; omega)]
            rfl
          have R7 := Lib.hid r7.drew
          have S7 := Lib.hid s7.drew
          clear r7 s7
          refine wp_region_grow (Only (fun _ => False)) (fun | 9 => some (fun v w' => ∃ b, v = .slice (some ⟨b, 0, none⟩) 64 64 ∧ RowAt w' ⟨b, 0, none⟩ (blockOf c)) | _ => none) (by kernel_rfl) (by kernel_rfl) (Only.refl _) (fun _ _ _ => Only.trans) ?_ ?_
          · intro i V hV v w1 w2 hr hv
            split at hV
            · cases hV
              obtain ⟨b, hb, hrow⟩ := hv
              exact ⟨b, hb, hrow.grow hr (by simp [blockOf])⟩
            · cases hV
          simp only [List.zipIdx_cons, List.zipIdx_nil, Nat.zero_add, Nat.reduceAdd]
          iterate 4 (refine grow_det ?_ rfl (fun w' => ?_) ?_; rotate_left 1; (unfold Runs; go_simp; rfl); try simp only [Act.put, List.setIfInBounds_toArray, List.set_cons_zero, List.set_cons_succ])
          refine grow_read (.string (strOf (blockOf c))) rfl (fun w' hr _ => ?_) ?_
          · have h1 := conv_any (blockOf c) (blockOf_length c) b7 w' (R7.out.grow hr (by simp [blockOf]))
            unfold Runs
            go_simp
          simp only [Act.put, List.setIfInBounds_toArray, List.set_cons_zero, List.set_cons_succ]
          iterate 3 (refine grow_det ?_ rfl (fun w' => ?_) ?_; rotate_left 1; (unfold Runs; go_simp; rfl); try simp only [Act.put, List.setIfInBounds_toArray, List.set_cons_zero, List.set_cons_succ])
          refine grow_read (.int .u8 (c.toNat : Int)) rfl (fun w' hr _ => ?_) ?_
          · have h1 := HCW.out w' hr
            unfold Runs
            go_simp
          simp only [Act.put, List.setIfInBounds_toArray, List.set_cons_zero, List.set_cons_succ]
          refine grow_pred _ rfl (fun w' hr _ => ?_) (fun v => ?_)
          · have h1 := S7.out.same hr
            unfold Gives gives
            go_simp
            refine (full_st h1 c _ rfl).mono ?_
            rintro e w14 ⟨b6, rfl, r6, -, o14, -⟩
            exact ⟨_, rfl, o14, b6, rfl, r6⟩
          simp only [Act.put, List.setIfInBounds_toArray, List.set_cons_zero, List.set_cons_succ]
          refine grow_read (.string (strOf (blockOf c))) rfl (fun w' hr hf => ?_) ?_
          · have h1 := hf 9 (by kernel_rfl)
            rw [upd_self] at h1
            obtain ⟨b6, rfl, r6⟩ := h1
            have h2 := conv_any (blockOf c) (blockOf_length c) b6 w' r6
            unfold Runs
            go_simp
          simp only [Act.put, List.setIfInBounds_toArray, List.set_cons_zero, List.set_cons_succ]
          iterate 2 (refine grow_det ?_ rfl (fun w' => ?_) ?_; rotate_left 1; (unfold Runs; go_simp; rfl); try simp only [Act.put, List.setIfInBounds_toArray, List.set_cons_zero, List.set_cons_succ])
          refine grow_end (fun w8 hr hf => ?_)
          clear hf
          have S8 := Lib.hid (S7.out.same hr)
          have HR8 := Lib.hid (hr.keeps (w := w7.drew) HROW7.out (fun h => h))
          clear hr
          go_wp2_with fail
          go_roundw
          case rel => exact ⟨j + 1, by omega, by go_num, S8.out, HR8.out⟩
          case measure => simp [intOf]; omega
        · go_wp2_with fail
          have hon2 : (!DD.off) = true := by rw [HBT.out.off]; rfl
          refine (on_st HS.out).mono ?_
          rw [hon2]
          rintro e w7 ⟨rfl, rfl⟩
          go_wp2_with fail
          go_ret
          exact ⟨rfl, HS.out.below⟩
    · rw [show (!decide (n < (k : Int))) = true by simpa using hnk] at hon
      rw [if_neg hnk] at hwr'
      have HW := Lib.hid hwr'
      have hr2 := HREAD.out
      rw [if_neg hnk] at hr2
      have HR2 := Lib.hid hr2
      clear hr2 hwr' HREAD
      have hsplit : (n ≤ (k : Int) ∧ n ≤ len0 ∧ n ≤ 40) ∨ ((k : Int) ≤ len0 ∧ (len0 : Int) ≤ k ∧ (len0 : Int) < n ∧ (len0 : Int) ≤ 40) := by omega
      clear hkk
      rcases hsplit with ⟨hb1, hb2, hb3⟩ | ⟨hb1, hb2, hb3, hb4⟩
      · go_wp2_with fail
        refine HR2.out.mono ?_
        rintro e w5 ⟨v, rfl, s5, o5⟩
        have HROW5 := Lib.hid (o5.keeps HROW.out (fun h => h))
        clear o5
        go_wp2_with fail
        refine (on_st s5).mono ?_
        rw [hon]
        rintro e w6 ⟨rfl, rfl⟩
        go_wp2_with fail
        refine (writes_st s5).mono ?_
        rw [HW.out]
        rintro e w6 ⟨rfl, rfl⟩
        go_wp2_with fail
        refine (boot_st s5).mono ?_
        rintro e w6 ⟨rfl, s6, o6⟩
        have HROW6 := Lib.hid (o6.keeps HROW5.out (fun h => by rcases h with h | h; exact hwp h; exact hwr h))
        clear o6 s5
        generalize D.booted = DD at *
        have HS6 := Lib.hid s6
        clear s6
        go_wp2_with fail
        go_loopw [14] (fun i wr => ∃ j : Nat, j ≤ 16 ∧ i = .int .i64 j ∧ DSt w.heap.size w wr p r DD ∧ wr.heap[wb]? = some (.cells (bvs wl) 5 (0, 0))) (fun i _ => 16 - (intOf i).toNat)
        case atStart => exact ⟨0, by omega, rfl, HS6.out, HROW6.out⟩
        case round =>
          obtain ⟨j, hj, rfl, hs, hrow⟩ := hrel
          have HS := Lib.hid hs
          have HR := Lib.hid hrow
          clear hs hrow
          by_cases hj16 : j < 16
          · have hcj : DD.code j = 0 := by
              unfold DK.code
              rw [HBT.out.off, HBT.out.len]
              have : ¬ ((j : Int) < 0 ∨ (16 : Int) ≤ j) := by omega
              simp [this]
            have hg := HBT.out.get j hj16
            have HCJ := Lib.hid hcj
            have HG := Lib.hid hg
            clear hcj hg
            go_wp2_with fail
            refine (read_st HS.out j HCJ.out).mono ?_
            rw [HG.out]
            rintro e w7 ⟨b7, rfl, r7, -, s7, o7, -⟩
            have hrow7 := o7.keeps HR.out (fun h => h)
            clear o7
            go_wp2_with fail
            have HROW7 := Lib.hid hrow7
            clear hrow7
            generalize hcc : wl.getD j 0 = c at *
            have HCC := Lib.hid hcc
            clear hcc
            have HCW : Hid (∀ w', Only (fun _ => False) w7.drew w' → w'.cell? ⟨wb, j, none⟩ = some (.int .u8 (c.toNat : Int))) := fun w' hr => by
              have h1 : w7.drew.heap[wb]? = some (.cells (bvs wl) 5 (0, 0)) := HROW7.out
              rw [cellOf (hr.keeps h1 (fun h => h)), bvs_get, List.getElem?_eq_getElem (by rw [HBT.out.wlen]; omega)]
              rw [← HCC.out, List.getD_eq_getElem?_getD, List.getElem?_eq_getElem (by rw [HBT.out.wlen]; omega)]
              rfl
            have R7 := Lib.hid r7.drew
            have S7 := Lib.hid s7.drew
            clear r7 s7
            refine wp_region_grow (Only (fun _ => False)) (fun | 9 => some (fun v w' => ∃ b, v = .slice (some ⟨b, 0, none⟩) 64 64 ∧ RowAt w' ⟨b, 0, none⟩ (blockOf c)) | _ => none) (by kernel_rfl) (by kernel_rfl) (Only.refl _) (fun _ _ _ => Only.trans) ?_ ?_
            · intro i V hV v w1 w2 hr hv
              split at hV
              · cases hV
                obtain ⟨b, hb, hrow⟩ := hv
                exact ⟨b, hb, hrow.grow hr (by simp [blockOf])⟩
              · cases hV
            simp only [List.zipIdx_cons, List.zipIdx_nil, Nat.zero_add, Nat.reduceAdd]
            iterate 4 (refine grow_det ?_ rfl (fun w' => ?_) ?_; rotate_left 1; (unfold Runs; go_simp; rfl); try simp only [Act.put, List.setIfInBounds_toArray, List.set_cons_zero, List.set_cons_succ])
            refine grow_read (.string (strOf (blockOf c))) rfl (fun w' hr _ => ?_) ?_
            · have h1 := conv_any (blockOf c) (blockOf_length c) b7 w' (R7.out.grow hr (by simp [blockOf]))
              unfold Runs
              go_simp
            simp only [Act.put, List.setIfInBounds_toArray, List.set_cons_zero, List.set_cons_succ]
            iterate 3 (refine grow_det ?_ rfl (fun w' => ?_) ?_; rotate_left 1; (unfold Runs; go_simp; rfl); try simp only [Act.put, List.setIfInBounds_toArray, List.set_cons_zero, List.set_cons_succ])
            refine grow_read (.int .u8 (c.toNat : Int)) rfl (fun w' hr _ => ?_) ?_
            · have h1 := HCW.out w' hr
              unfold Runs
              go_simp
            simp only [Act.put, List.setIfInBounds_toArray, List.set_cons_zero, List.set_cons_succ]
            refine grow_pred _ rfl (fun w' hr _ => ?_) (fun v => ?_)
            · have h1 := S7.out.same hr
              unfold Gives gives
              go_simp
              refine (full_st h1 c _ rfl).mono ?_
              rintro e w14 ⟨b6, rfl, r6, -, o14, -⟩
              exact ⟨_, rfl, o14, b6, rfl, r6⟩
            simp only [Act.put, List.setIfInBounds_toArray, List.set_cons_zero, List.set_cons_succ]
            refine grow_read (.string (strOf (blockOf c))) rfl (fun w' hr hf => ?_) ?_
            · have h1 := hf 9 (by kernel_rfl)
              rw [upd_self] at h1
              obtain ⟨b6, rfl, r6⟩ := h1
              have h2 := conv_any (blockOf c) (blockOf_length c) b6 w' r6
              unfold Runs
              go_simp
            simp only [Act.put, List.setIfInBounds_toArray, List.set_cons_zero, List.set_cons_succ]
            iterate 2 (refine grow_det ?_ rfl (fun w' => ?_) ?_; rotate_left 1; (unfold Runs; go_simp; rfl); try simp only [Act.put, List.setIfInBounds_toArray, List.set_cons_zero, List.set_cons_succ])
            refine grow_end (fun w8 hr hf => ?_)
            clear hf
            have S8 := Lib.hid (S7.out.same hr)
            have HR8 := Lib.hid (hr.keeps (w := w7.drew) HROW7.out (fun h => h))
            clear hr
            go_wp2_with fail
            go_roundw
            case rel => exact ⟨j + 1, by omega, by go_num, S8.out, HR8.out⟩
            case measure => simp [intOf]; omega
          · go_wp2_with fail
            have hon2 : (!DD.off) = true := by rw [HBT.out.off]; rfl
            refine (on_st HS.out).mono ?_
            rw [hon2]
            rintro e w7 ⟨rfl, rfl⟩
            go_wp2_with fail
            go_ret
            exact ⟨rfl, HS.out.below⟩

      · go_wp2_with fail
        refine HR2.out.mono ?_
        rintro e w5 ⟨v, rfl, s5, o5⟩
        have HROW5 := Lib.hid (o5.keeps HROW.out (fun h => h))
        clear o5
        go_wp2_with fail
        refine (on_st s5).mono ?_
        rw [hon]
        rintro e w6 ⟨rfl, rfl⟩
        go_wp2_with fail
        refine (writes_st s5).mono ?_
        rw [HW.out]
        rintro e w6 ⟨rfl, rfl⟩
        go_wp2_with fail
        refine (boot_st s5).mono ?_
        rintro e w6 ⟨rfl, s6, o6⟩
        have HROW6 := Lib.hid (o6.keeps HROW5.out (fun h => by rcases h with h | h; exact hwp h; exact hwr h))
        clear o6 s5
        generalize D.booted = DD at *
        have HS6 := Lib.hid s6
        clear s6
        go_wp2_with fail
        go_loopw [14] (fun i wr => ∃ j : Nat, j ≤ 16 ∧ i = .int .i64 j ∧ DSt w.heap.size w wr p r DD ∧ wr.heap[wb]? = some (.cells (bvs wl) 5 (0, 0))) (fun i _ => 16 - (intOf i).toNat)
        case atStart => exact ⟨0, by omega, rfl, HS6.out, HROW6.out⟩
        case round =>
          obtain ⟨j, hj, rfl, hs, hrow⟩ := hrel
          have HS := Lib.hid hs
          have HR := Lib.hid hrow
          clear hs hrow
          by_cases hj16 : j < 16
          · have hcj : DD.code j = 0 := by
              unfold DK.code
              rw [HBT.out.off, HBT.out.len]
              have : ¬ ((j : Int) < 0 ∨ (16 : Int) ≤ j) := by omega
              simp [this]
            have hg := HBT.out.get j hj16
            have HCJ := Lib.hid hcj
            have HG := Lib.hid hg
            clear hcj hg
            go_wp2_with fail
            refine (read_st HS.out j HCJ.out).mono ?_
            rw [HG.out]
            rintro e w7 ⟨b7, rfl, r7, -, s7, o7, -⟩
            have hrow7 := o7.keeps HR.out (fun h => h)
            clear o7
            go_wp2_with fail
            have HROW7 := Lib.hid hrow7
            clear hrow7
            generalize hcc : wl.getD j 0 = c at *
            have HCC := Lib.hid hcc
            clear hcc
            have HCW : Hid (∀ w', Only (fun _ => False) w7.drew w' → w'.cell? ⟨wb, j, none⟩ = some (.int .u8 (c.toNat : Int))) := fun w' hr => by
              have h1 : w7.drew.heap[wb]? = some (.cells (bvs wl) 5 (0, 0)) := HROW7.out
              rw [cellOf (hr.keeps h1 (fun h => h)), bvs_get, List.getElem?_eq_getElem (by rw [HBT.out.wlen]; omega)]
              rw [← HCC.out, List.getD_eq_getElem?_getD, List.getElem?_eq_getElem (by rw [HBT.out.wlen]; omega)]
              rfl
            have R7 := Lib.hid r7.drew
            have S7 := Lib.hid s7.drew
            clear r7 s7
            refine wp_region_grow (Only (fun _ => False)) (fun | 9 => some (fun v w' => ∃ b, v = .slice (some ⟨b, 0, none⟩) 64 64 ∧ RowAt w' ⟨b, 0, none⟩ (blockOf c)) | _ => none) (by kernel_rfl) (by kernel_rfl) (Only.refl _) (fun _ _ _ => Only.trans) ?_ ?_
            · intro i V hV v w1 w2 hr hv
              split at hV
              · cases hV
                obtain ⟨b, hb, hrow⟩ := hv
                exact ⟨b, hb, hrow.grow hr (by simp [blockOf])⟩
              · cases hV
            simp only [List.zipIdx_cons, List.zipIdx_nil, Nat.zero_add, Nat.reduceAdd]
            iterate 4 (refine grow_det ?_ rfl (fun w' => ?_) ?_; rotate_left 1; (unfold Runs; go_simp; rfl); try simp only [Act.put, List.setIfInBounds_toArray, List.set_cons_zero, List.set_cons_succ])
            refine grow_read (.string (strOf (blockOf c))) rfl (fun w' hr _ => ?_) ?_
            · have h1 := conv_any (blockOf c) (blockOf_length c) b7 w' (R7.out.grow hr (by simp [blockOf]))
              unfold Runs
              go_simp
            simp only [Act.put, List.setIfInBounds_toArray, List.set_cons_zero, List.set_cons_succ]
            iterate 3 (refine grow_det ?_ rfl (fun w' => ?_) ?_; rotate_left 1; (unfold Runs; go_simp; rfl); try simp only [Act.put, List.setIfInBounds_toArray, List.set_cons_zero, List.set_cons_succ])
            refine grow_read (.int .u8 (c.toNat : Int)) rfl (fun w' hr _ => ?_) ?_
            · have h1 := HCW.out w' hr
              unfold Runs
              go_simp
            simp only [Act.put, List.setIfInBounds_toArray, List.set_cons_zero, List.set_cons_succ]
            refine grow_pred _ rfl (fun w' hr _ => ?_) (fun v => ?_)
            · have h1 := S7.out.same hr
              unfold Gives gives
              go_simp
              refine (full_st h1 c _ rfl).mono ?_
              rintro e w14 ⟨b6, rfl, r6, -, o14, -⟩
              exact ⟨_, rfl, o14, b6, rfl, r6⟩
            simp only [Act.put, List.setIfInBounds_toArray, List.set_cons_zero, List.set_cons_succ]
            refine grow_read (.string (strOf (blockOf c))) rfl (fun w' hr hf => ?_) ?_
            · have h1 := hf 9 (by kernel_rfl)
              rw [upd_self] at h1
              obtain ⟨b6, rfl, r6⟩ := h1
              have h2 := conv_any (blockOf c) (blockOf_length c) b6 w' r6
              unfold Runs
              go_simp
            simp only [Act.put, List.setIfInBounds_toArray, List.set_cons_zero, List.set_cons_succ]
            iterate 2 (refine grow_det ?_ rfl (fun w' => ?_) ?_; rotate_left 1; (unfold Runs; go_simp; rfl); try simp only [Act.put, List.setIfInBounds_toArray, List.set_cons_zero, List.set_cons_succ])
            refine grow_end (fun w8 hr hf => ?_)
            clear hf
            have S8 := Lib.hid (S7.out.same hr)
            have HR8 := Lib.hid (hr.keeps (w := w7.drew) HROW7.out (fun h => h))
            clear hr
            go_wp2_with fail
            go_roundw
            case rel => exact ⟨j + 1, by omega, by go_num, S8.out, HR8.out⟩
            case measure => simp [intOf]; omega
          · go_wp2_with fail
            have hon2 : (!DD.off) = true := by rw [HBT.out.off]; rfl
            refine (on_st HS.out).mono ?_
            rw [hon2]
            rintro e w7 ⟨rfl, rfl⟩
            go_wp2_with fail
            go_ret
            exact ⟨rfl, HS.out.below⟩
/-! ### THE ROW's STEP: WRITTEN OUT: LEAVE IT -/
set_option maxRecDepth 100000 in
theorem lifted (os : Os) (started : os.Started) (H : Type) (enc : TypeId × Value → H) :
    ReturnsInHanded {} Try.checked os 3 .any (Rows.diskFusesSpec.pre6 enc Try.prog Try.f3 Rows.diskFusesRow.domain false) (Rows.diskFusesSpec.post enc Try.prog Try.f3 false true false false) := by
  refine returnsInHanded_of_change (C := Try.checked) own started (by kernel_rfl) Try.func3
    (ChangeSpec.witness6 (enc := enc) (C := Try.checked) false ⟨#[], #[.slice none 0 0, .int .i64 0], []⟩ 8 (by kernel_rfl) (by kernel_rfl) (by kernel_rfl) (by kernel_rfl)) ?_
  intro W base args ds gs before hval0 hW hcnd _
  have hval : ∀ (j : Nat) t v, Try.f3.params[j]? = some t → args[j]? = some v → Value.okWide Try.prog W .any base t v := hval0
  have hW' := hW
  obtain ⟨p, q, hA0, hV, rfl, hfz, hnd⟩ := hW
  have hA : DataW.TrodAll enc Try.prog W 0 (fun _ => true) true Try.f3.params.toList args.toList ds p := hA0
  rw [Try.params3] at hA hval
  obtain ⟨v0, vs0, d0, ds0, p0, q0, hargs, rfl, rfl, h0, r0⟩ := trodAll_cons hA
  obtain ⟨v1, vs1, d1, ds1, p1, q1, rfl, rfl, rfl, h1, r1⟩ := trodAll_cons r0
  obtain ⟨rfl, rfl, rfl⟩ := trodAll_nil r1
  obtain rfl : args = #[v0, v1] := by cases args; simp_all
  obtain ⟨rfl, rfl⟩ := trodVars_none hV
  obtain ⟨a0, len0, cap0, rfl⟩ := okWide_slice Try.underlying22 (hval 0 22 v0 rfl rfl)
  have k0 := h0
  have lt0 : ∀ x ∈ p0, x.block < W.heap.size := by obtain ⟨m, hm⟩ := k0; exact DataW.trod_lt m _ _ _ hm
  obtain ⟨z0, w0⟩ : ∃ zs, IsRow .u8 W a0 len0 cap0 zs := by
    obtain ⟨fuel, hf⟩ := h0
    rcases open_ints Try.underlying22 Try.underlying5 (by kernel_rfl) hf with ⟨hcs, _⟩ | ⟨x, l, c, zs, hcs, _, hl, hm, hz, _, hcell, hwz⟩
    · simp [Value.cells] at hcs
      obtain ⟨rfl, rfl, rfl⟩ := hcs
      exact ⟨[], .inl ⟨rfl, rfl, rfl, rfl⟩⟩
    · simp [Value.cells] at hcs
      obtain ⟨rfl, rfl, rfl⟩ := hcs
      exact ⟨zs, .inr ⟨_, rfl, hl, hm, by simpa using hz, hcell, hwz⟩⟩
  obtain ⟨a1, rfl, rfl, rfl, w1⟩ := open_int Try.underlying3 (hval 1 3 v1 rfl rfl) h1
  clear hA0 hval0
  refine (walk a0 len0 cap0 z0 a1 W w0 w1).mono fun e W' ⟨he, bel⟩ => ?_
  subst he
  exact ⟨_, rfl, _, _, _, [], _, [], hW', trodAll_mk1 (shut_bool Try.underlying4 _), (trodAll_cons_mk (Below.trod laidOut (by kernel_rfl) (of_decide_eq_true (by kernel_rfl)) k0 bel lt0) (trodAll_cons_mk (shut_int Try.underlying3 w1) trodAll_mk0)), rfl, bel.frame _, fun h => by cases h⟩

theorem over : Rows.diskFusesRow.holds Try.pinned (OpenSpec.ofChange Rows.diskFusesSpec) :=
  OpenClaim.holds_of_wide 3 Try.f3 rfl rfl rfl rfl rfl rfl rfl ⟨rfl, rfl, rfl, rfl, rfl⟩ rfl rfl rfl rfl rfl (by kernel_rfl) Try.func3 (by kernel_rfl)
    (of_decide_eq_true (by kernel_rfl)) (by unfold Func.isWrapper; first | (rw [if_pos (by decide +kernel)]; kernel_rfl) | (rw [if_neg (by decide +kernel)]; exact ⟨rfl, rfl⟩))
    (fun os started H enc _ => lifted os started H enc)

/-- ████ THE STATEMENT ████ -/
theorem proved : Rows.DiskFusesSaid := over

#print axioms proved
end Go.Proofs.Ytlieijnhlfedmaa.diskFuses
