/- JournalApart: two journals on one disk know nothing of one another: for any bytes. -/
import Derived.Test.YtpmlmjbhgonegaaRows
import Derived.Test.YtpmlmjbhgonegaaJApart
import Derived.Test.YtpmlmjbhgonegaaRowsArg
import Derived.ProofKit
import Derived.OpenShut
import Derived.ShutString
import Derived.ChangeOld
namespace Go.Proofs.Ytpmlmjbhgonegaa.journalApart
open Go.ChangeShapes Go.WideShapes Go.ChangeAt Go.RowKit
open Go.ChangeMaps (open_string shut_string)
set_option linter.unusedVariables false

theorem own : ownKnob Try.prog.godebug = none := by kernel_rfl
theorem laidOut : laidOutB Try.prog = true := by kernel_rfl
theorem only_below {w w' : World} (o : Only (fun _ => False) w w') : Below w.heap.size w w' := o.below (Below.refl _ _) (Nat.le_refl _) (fun _ e => e.elim)
def zeros40 : List UInt8 := List.replicate 40 0
def falses20 : List Bool := List.replicate 20 false
theorem full_eq (w : World) (c z : UInt8) (n m : Int) (hn : n = c.toNat) (hm : m = z.toNat) :
    Calls Try.prog 16 #[.int .u8 n, .int .u8 m] w fun e w' => e = .returned (.slice (some ⟨w.heap.size, 0, none⟩) 64 64) ∧ w' = w.alloc (.cells (bvs (fullBytes c z)) 5) := by
  subst hn hm
  exact full_calls w c z
theorem store_new (P : Program) (w : World) (o l : Array Value) (t : TypeId) (hl : o.size = l.size) (h1 : ∀ v ∈ l.toList, v.oneCell' = true) :
    (storeCells ⟨w.heap.size, 0, none⟩ l.toList).run P (w.alloc (.cells o t)) = .ok () (w.alloc (.cells l t)) := by
  have := run_storeCells_from (P := P) w.heap.size t l.toList 0 o (w.alloc (.cells o t)) (heap_alloc_new _ _) (by simp [hl]) h1
  rw [this]
  simp [setRow_new]
def nils2 : Array Value := #[.pointer none, .pointer none]
theorem unhid_ {p : Prop} (h : Hid p) : p := h.out
def noughts : Nat → Nat := fun _ => 0
theorem tells_zeros (z : UInt8) (E : Img) : Tells zeros40 z 398 E := fun b _ hp => by
  have : zeros40.getD b 0 = 0 := by
    unfold zeros40
    rw [List.getD_eq_getElem?_getD, List.getElem?_replicate]
    split <;> rfl
  rw [this] at hp
  exact absurd hp (by decide)

set_option maxRecDepth 100000 in
set_option maxHeartbeats 8000000 in
theorem walk (a0 : Option Addr) (len0 cap0 : Nat) (w : World) (w0 : RowsArg w a0 len0) :
    Calls Try.prog 6 #[.slice a0 len0 cap0] w fun e w' => e = .returned (.bool true) ∧ Below w.heap.size w w' := by
  obtain ⟨hl0, hc0⟩ := w0
  have C0 := Lib.hid hc0
  clear hc0
  obtain ⟨i0, hi0⟩ := put_info
  have HI := Lib.hid hi0
  clear hi0
  have SH := Lib.hid (shown_calls w)
  go_enter Try.func6, Try.ntmps6
  go_wp2_with fail
  refine SH.out.mono ?_
  rintro e w1 ⟨rfl, o1⟩
  have HB := Lib.hid (only_below o1)
  clear o1
  go_wp2_with fail
  refine (new_st w.heap.size w w1 438 (by omega) (by omega) HB.out.size HB.out).mono ?_
  rintro e w2 ⟨p, r, rfl, s2, o2, hp, hr⟩
  have S2 := Lib.hid s2
  clear s2 o2 hp hr
  have hbuild : ∀ w, (Instr.build 52 #[(0, .int .i64 0), (1, .int .i64 199)]).run Try.prog w = .ok (.agg (ints2 two199)) w := fun w => by kernel_rfl
  have hzero : ∀ w, (zeroValue 52).run Try.prog w = .ok (.agg (ints2 noughts)) w := fun w => by kernel_rfl
  have hsz : (ints2 noughts).size = 2 := by rfl
  have hst : ∀ w : World, (storeCells ⟨w.heap.size, 0, none⟩ (((ints2 noughts).toList.set 0 (.int .i64 0)).set 1 (.int .i64 199))).run Try.prog (w.alloc (.cells (ints2 noughts) 52)) = .ok () (w.alloc (.cells (ints2 two199) 52)) := fun w => store_new Try.prog w (ints2 noughts) (ints2 two199) 52 rfl (by decide)
  go_upto_region 6 with fail
  clear hbuild hzero hsz hst
  have S3 := Lib.hid (S2.out.same ((Only.refl _ w2).alloc (.cells (ints2 two199) 52)))
  have PL3 := Lib.hid (heap_alloc_new w2 (.cells (ints2 two199) 52))
  have HPB := Lib.hid S2.out.hB
  clear S2
  generalize w2.alloc (.cells (ints2 two199) 52) = w3 at *
  generalize w2.heap.size = pb at *
  have hbuild : ∀ w, (Instr.build 53 #[]).run Try.prog w = .ok (.agg nils2) w := fun w => by kernel_rfl
  have hzero : ∀ w, (zeroValue 53).run Try.prog w = .ok (.agg nils2) w := fun w => by kernel_rfl
  have hsz : nils2.size = 2 := by rfl
  have hst := fun w => store_new Try.prog w nils2 nils2 53 rfl (by decide)
  go_upto_region 7 with fail
  clear hbuild hzero hsz hst
  have o4 := (Only.refl (fun _ => False) w3).alloc (.cells nils2 53)
  have S4 := Lib.hid (S3.out.same o4)
  have PL4 := Lib.hid (o4.keeps PL3.out (fun e => e))
  have JS4 := Lib.hid (heap_alloc_new w3 (.cells nils2 53))
  have HSB := Lib.hid S3.out.hB
  clear S3 PL3 o4
  generalize w3.alloc (.cells nils2 53) = w4 at *
  generalize w3.heap.size = sb at *
  go_wp2_with fail
  go_loopw [8] (fun i wr => ∃ (k : Nat) (D : DK) (jbs : Nat → Nat), i = .int .i64 k ∧ k ≤ 2 ∧ Begun w.heap.size w wr p r D jbs k pb sb) (fun i _ => 2 - (intOf i).toNat)
  case atStart => exact ⟨0, _, noughts, rfl, by omega, S4.out, ⟨rfl, rfl, rfl, ⟨by decide, by decide, by decide⟩⟩, fun q hq => by omega, fun q hq => by omega, fun e => by omega, PL4.out, JS4.out, HSB.out⟩
  case round =>
    clear S4 PL4 JS4
    obtain ⟨k, D, jbs, rfl, hk2, hbg⟩ := hrel
    have BG := Lib.hid hbg
    clear hbg
    by_cases hk : k < 2
    · have cp : wr.cell? ⟨pb, k, none⟩ = some (.int .i64 ((199 * k : Nat) : Int)) := (cellOf BG.out.pl k).trans (ints2_get two199 k hk)
      have hk2i : (k : Int) < 2 := by omega
      have hww : IntKind.i64.wrap ((k : Int) + 1) = (k : Int) + 1 := IntWalk.i64_in _ (by omega)
      go_wp2_with fail
      refine (format_fit BG.out.st _ BG.out.fit (by omega) (by omega) (by decide) (by omega)).mono ?_
      rintro e w5 ⟨rfl, D5, s5, f5, c5, o5⟩
      have BG5 := Lib.hid (BG.out.format hk s5 f5 c5 o5)
      have F5 := Lib.hid f5
      have C5 := Lib.hid c5
      clear s5 f5 c5 o5 cp
      have cp5 : w5.cell? ⟨pb, k, none⟩ = some (.int .i64 ((199 * k : Nat) : Int)) := (cellOf BG5.out.pl k).trans (ints2_get two199 k hk)
      go_wp2_with fail
      refine (open_fit (E := D5.get) BG5.out.st _ F5.out (by omega) (by omega) (by decide) (by decide) (by omega) (.inl ⟨C5.out.head, fun _ _ => rfl⟩)).mono ?_
      rintro e w6 ⟨jb, D6, rfl, hjb, j6, f6, c6, o6⟩
      have BG6 := Lib.hid (BG5.out.opened hk hjb j6 f6 (by omega) rfl c6 o6)
      have fs := freeOf BG6.out.2 k
      have cs6 : w6.cell? ⟨sb, k, none⟩ = some (.pointer none) := (cellOf BG6.out.2 k).trans (by rcases (show k = 0 ∨ k = 1 by omega) with rfl | rfl <;> rfl)
      clear j6 f6 c6 o6 cp5 hjb
      go_wp2_with fail
      go_roundw
      case rel => exact ⟨k + 1, D6, at2 jbs k jb, by go_num, by omega, BG6.out.1⟩
      case measure => simp [intOf]; omega
    · have hk2i : ¬ (k : Int) < 2 := by omega
      obtain rfl : k = 2 := by omega
      have hbuild : ∀ w, (Instr.build 52 #[]).run Try.prog w = .ok (.agg (ints2 noughts)) w := fun w => by kernel_rfl
      have hzero : ∀ w, (zeroValue 52).run Try.prog w = .ok (.agg (ints2 noughts)) w := fun w => by kernel_rfl
      have hsz : (ints2 noughts).size = 2 := by rfl
      have hst := fun w => store_new Try.prog w (ints2 noughts) (ints2 noughts) 52 rfl (by decide)
      go_upto_region 16 with fail
      clear hbuild hzero hsz hst
      have o5 := (Only.refl (fun _ => False) wr).alloc (.cells (ints2 noughts) 52)
      have BG5 := Lib.hid (BG.out.same o5)
      have NS5 := Lib.hid (heap_alloc_new wr (.cells (ints2 noughts) 52))
      have HNB := Lib.hid (And.intro BG.out.st.hB (Nat.ne_of_lt (lt_of_heap BG.out.pl)))
      clear BG o5
      generalize wr.alloc (.cells (ints2 noughts) 52) = w5 at *
      generalize wr.heap.size = nb at *
      have hbuild : ∀ w, (Instr.build 54 #[]).run Try.prog w = .ok (.agg (bvs zeros40)) w := fun w => by kernel_rfl
      have hzero : ∀ w, (zeroValue 54).run Try.prog w = .ok (.agg (bvs zeros40)) w := fun w => by kernel_rfl
      have hsz : (bvs zeros40).size = 40 := by rfl
      have hst := fun w => run_storeCells_new Try.prog w (bvs zeros40) zeros40 54 rfl
      go_upto_region 17 with fail
      clear hbuild hzero hsz hst
      have o6 := (Only.refl (fun _ => False) w5).alloc (.cells (bvs zeros40) 54)
      have BG6 := Lib.hid (BG5.out.same o6)
      have NS6 := Lib.hid (o6.keeps NS5.out (fun e => e))
      have HS6 := Lib.hid (heap_alloc_new w5 (.cells (bvs zeros40) 54))
      have HHB := Lib.hid BG5.out.st.hB
      clear BG5 NS5 o6
      generalize w5.alloc (.cells (bvs zeros40) 54) = w6 at *
      generalize w5.heap.size = hb at *
      have AP0 := Lib.hid (BG6.out.ap NS6.out HS6.out ⟨HSB.out, HNB.out.1, HHB.out, HNB.out.2⟩)
      clear BG6 NS6 HS6 HHB HNB HSB
      go_wp2_with fail
      go_loopw [14] (fun i wr => ∃ (k : Nat) (D : DK) (jbs gs : Nat → Nat) (hl : List UInt8), i = .int .i64 k ∧ k ≤ len0 ∧ k ≤ 30 ∧ Ap w.heap.size w wr p r D jbs gs (1000 + 700 * k) pb sb nb hb gs hl ∧ Tells hl 3 398 D.get ∧ hl.length = 40 ∧ ∀ q, q < 2 → gs q ≤ k) (fun i _ => 30 - (intOf i).toNat)
      case atStart => exact ⟨0, D, jbs, fun _ => 0, zeros40, rfl, by omega, by omega, AP0.out, tells_zeros _ _, rfl, fun _ _ => Nat.le_refl _⟩
      case round =>
        clear AP0
        obtain ⟨k, D, jbs, gs, hl, rfl, hk1, hk2, hap, htl, hlen, hgs⟩ := hrel
        have AP := Lib.hid hap
        have TL := Lib.hid htl
        have HLEN := Lib.hid hlen
        have HGS := Lib.hid hgs
        clear hap htl hlen hgs
        by_cases hgo : k < len0 ∧ k < 30
        · obtain ⟨hlt, hlt30⟩ := hgo
          have hlt30i : decide ((k : Int) < 30) = true := decide_eq_true (by omega)
          obtain ⟨par, hpar⟩ : ∃ par, par = k % 2 := ⟨_, rfl⟩
          have hmod2 : (k : Int) % 2 = (par : Int) := by omega
          have hp2 : par < 2 := by omega
          have hbuild : ∀ w, (Instr.build 55 #[]).run Try.prog w = .ok (.agg (bools falses20)) w := fun w => by kernel_rfl
          have hzero : ∀ w, (zeroValue 55).run Try.prog w = .ok (.agg (bools falses20)) w := fun w => by kernel_rfl
          have hsz : (bools falses20).size = 20 := by rfl
          have hst := run_storeBools_new Try.prog (wr.alloc (.cells #[] 44)) (bools falses20) falses20 55 rfl
          rw [heap_alloc_size] at hst
          go_wp2_with fail
          rw [hmod2]
          clear hmod2 hpar
          clear hbuild hzero hsz hst
          have o4 := ((Only.refl (fun _ => False) wr).alloc (.cells #[] 44)).alloc (.cells (bools falses20) 55)
          have AP4 := Lib.hid (AP.out.same o4)
          have P4 := Lib.hid ((PutsOwn.start wr).none ((Only.refl (fun _ => False) _).alloc (.cells (bools falses20) 55)))
          have hsb : ((wr.alloc (.cells #[] 44)).alloc (.cells (bools falses20) 55)).heap[wr.heap.size + 1]? = some (.cells (bools falses20) 55 (0, 0)) := by
            have := heap_alloc_new (wr.alloc (.cells #[] 44)) (.cells (bools falses20) 55)
            rwa [heap_alloc_size] at this
          have HSEEN := Lib.hid hsb
          obtain ⟨lo, hlo⟩ : ∃ lo, lo = wr.heap.size := ⟨_, rfl⟩
          have HLO := Lib.hid (show (w.heap.size ≤ lo ∧ p < lo ∧ r < lo ∧ jbs 0 < lo ∧ jbs 1 < lo ∧ pb < lo ∧ sb < lo ∧ nb < lo ∧ hb < lo) from by
            rw [hlo]
            exact ⟨AP.out.d.hB, AP.out.lts⟩)
          obtain ⟨x, a1, n1, c1, rfl, hxl, hxc, hl1, z1, hz1, hc1⟩ := C0.out k hlt
          have XC := Lib.hid (And.intro hxl hxc)
          have C1 := Lib.hid hc1
          rw [← hlo] at P4 HSEEN ⊢
          clear o4 hsb hlo hxl hxc hc1 hz1
          have hsz4 : lo + 2 = ((wr.alloc (.cells #[] 44)).alloc (.cells (bools falses20) 55)).heap.size → True := fun _ => trivial
          generalize (wr.alloc (.cells #[] 44)).alloc (.cells (bools falses20) 55) = w4 at *
          clear hsz4
          go_loopw [18, 16] (fun j v w5 => ∃ (q : Nat) (bl : List Nat) (sl : List Bool) (hl2 : List UInt8) (G : List (Int × List UInt8)), j = .int .i64 q ∧ q ≤ n1 ∧ q ≤ 20 ∧ G.length ≤ q ∧ Ap w.heap.size w w5 p r D jbs gs (1000 + 700 * k) pb sb nb hb gs hl2 ∧ PutsOwn lo w5 v bl G ∧ w5.heap[lo + 1]? = some (.cells (bools sl) 55 (0, 0)) ∧ Under2 (UInt8.ofNat (k + 1)) 3 398 (20 * par) 20 hl sl hl2 G ∧ lo ≤ w5.heap.size) (fun j _ _ => 20 - (intOf j).toNat)
          case atStart => exact ⟨0, [], falses20, hl, [], rfl, by omega, by omega, by simp, AP4.out, P4.out, HSEEN.out, Under2.start _ _ _ (20 * par) 20 hl (by have := HLEN.out; omega), by have := lt_of_heap HSEEN.out; omega⟩
          case round =>
            clear AP AP4 P4 HSEEN
            obtain ⟨q, bl, sl, hl2, G, rfl, hq1, hq2, hGq, hap5, hp5, hs5, hu5, hlo5⟩ := hrel
            have AP5 := Lib.hid hap5
            have P5 := Lib.hid hp5
            have S5 := Lib.hid hs5
            have U5 := Lib.hid hu5
            have L5 := Lib.hid hlo5
            have cx := (AP5.out.d.below.cell (p := x.add k) (by rw [add_block]; exact XC.out.1)).trans XC.out.2
            clear hap5 hp5 hs5 hu5 hlo5
            by_cases hgo : q < n1 ∧ q < 20
            · obtain ⟨hltq, hltq20⟩ := hgo
              have hltq20i : decide ((q : Int) < 20) = true := decide_eq_true (by omega)
              obtain ⟨y, rfl, hyl, hyc⟩ := C1.out q hltq
              have cy := (AP5.out.d.below.cell (p := y.add q) (by rw [add_block]; exact hyl)).trans hyc
              have hyb := (z1.getD q 0).toNat_lt
              unfold bv at cy
              generalize (z1.getD q 0).toNat = yb at *
              obtain ⟨a, ha⟩ : ∃ a, a = yb % 20 := ⟨_, rfl⟩
              have hmod : (yb : Int) % 20 = (a : Int) := by omega
              have ha20 : a < 20 := by omega
              have hw5 : IntKind.i64.wrap (yb : Int) = yb := IntWalk.i64_in _ (by omega)
              have cs := bools_cell S5.out (j := a) (by rw [U5.out.slen]; exact ha20)
              obtain ⟨sv, hsv⟩ : ∃ sv, sl.getD a false = sv := ⟨_, rfl⟩
              rw [hsv] at cs
              have HSV := Lib.hid hsv
              clear ha hsv hyl hyc
              cases sv with
              | true =>
                go_wp2_with fail
                go_roundw
                case rel => exact ⟨q + 1, bl, sl, hl2, G, by go_num, by omega, by omega, by omega, AP5.out, P5.out, S5.out, U5.out, L5.out⟩
                case measure => simp [intOf]; omega
              | false =>
                obtain ⟨ob, hob⟩ : ∃ ob, ob = 20 * par + a := ⟨_, rfl⟩
                have hob40 : ob < 40 := by omega
                have HOB := Lib.hid hob
                have hw20 : IntKind.i64.wrap (20 * (par : Int)) = 20 * (par : Int) := IntWalk.i64_in _ (by omega)
                have hwo : IntKind.i64.wrap (20 * (par : Int) + (a : Int)) = (ob : Int) := by rw [IntWalk.i64_in _ (by omega)]; omega
                have hwp : IntKind.i64.wrap (398 + 20 * (par : Int)) = 398 + 20 * (par : Int) := IntWalk.i64_in _ (by omega)
                have hwq : IntKind.i64.wrap (398 + 20 * (par : Int) + (a : Int)) = 398 + (ob : Int) := by rw [IntWalk.i64_in _ (by omega)]; omega
                have hwk : IntKind.i64.wrap ((k : Int) + 1) = (k : Int) + 1 := IntWalk.i64_in _ (by omega)
                have hwc : IntKind.u8.wrap ((k : Int) + 1) = (k : Int) + 1 := IntWalk.u8_in _ (by omega)
                have fs := freeOf S5.out a
                have fh := freeOf AP5.out.hs ob
                have hsb : lo + 1 ≠ hb := by have := HLO.out; omega
                have hh6 := ((Only.refl (· = lo + 1) wr).put a (.bool true)).keeps AP5.out.hs (fun e => hsb e.symm)
                have ch := bvs_cell hh6 (j := ob) (by rw [U5.out.hlen, HLEN.out]; exact hob40)
                have fh2 := freeOf hh6 ob
                clear hh6 hob
                go_wp2_with fail
                have hbv : Value.int .u8 ((k : Int) + 1) = bv (UInt8.ofNat (k + 1)) := by unfold bv; rw [UInt8.toNat_ofNat']; congr 1; omega
                have o6 : Only (fun q => q = lo + 1 ∨ q = hb) wr ((wr.setCell ⟨lo + 1, a, none⟩ (.bool true)).setCell ⟨hb, ob, none⟩ (.int .u8 ((k : Int) + 1))) := ((Only.refl _ wr).setCell (p := ⟨lo + 1, a, none⟩) (Or.inl rfl) _).setCell (p := ⟨hb, ob, none⟩) (Or.inr rfl) _
                have P6 := Lib.hid (P5.out.keep o6 (fun q hq => by
                  rcases hq with rfl | rfl
                  · exact ⟨_, _, S5.out, by decide, by decide⟩
                  · exact ⟨_, _, AP5.out.hs, by decide, by decide⟩))
                have ap5b := AP5.out.other ((Only.refl (· = lo + 1) wr).put a (.bool true)) (fun q hq => by have := HLO.out; cases hq; omega)
                have ap6 := ap5b.seth ob (UInt8.ofNat (k + 1))
                have hs6 : ((wr.setCell ⟨lo + 1, a, none⟩ (.bool true)).setCell ⟨hb, ob, none⟩ (.int .u8 ((k : Int) + 1))).heap[lo + 1]? = some (.cells (bools (sl.set a true)) 55 (0, 0)) := by
                  refine ((Only.refl (· = hb) _).put ob _).keeps ?_ hsb
                  rw [heap_setCell_same wr (lo + 1) a _ _ (.bool true) S5.out, bools_set]
                have hl6 : lo ≤ ((wr.setCell ⟨lo + 1, a, none⟩ (.bool true)).setCell ⟨hb, ob, none⟩ (.int .u8 ((k : Int) + 1))).heap.size := Nat.le_trans L5.out o6.size
                have u6 := U5.out.more ha20 HSV.out
                rw [← HOB.out] at u6
                rw [← hbv] at ap6
                have AP6 := Lib.hid ap6
                have U6 := Lib.hid u6
                have S6 := Lib.hid hs6
                have L6 := Lib.hid hl6
                clear o6 hbv hs6 hl6 ch fh2 fs fh cs cx cy ap5b ap6 u6
                generalize (wr.setCell ⟨lo + 1, a, none⟩ (.bool true)).setCell ⟨hb, ob, none⟩ (.int .u8 ((k : Int) + 1)) = w6 at *
                obtain ⟨gq, cq, hv⟩ := P6.out.shape
                subst hv
                obtain ⟨cb, hcb⟩ : ∃ c, c = UInt8.ofNat (k + 1) := ⟨_, rfl⟩
                have hcn : (k : Int) + 1 = (cb.toNat : Int) := by rw [hcb, UInt8.toNat_ofNat']; omega
                have HCN := Lib.hid hcn
                have HCB := Lib.hid hcb
                rw [← hcb] at U6 AP6
                clear hcn hcb
                refine (full_eq w6 cb 3 _ _ HCN.out rfl).mono ?_
                rintro e w7 ⟨rfl, rfl⟩
                go_wp2_with (at_builtin; refine wpList_append_own _ rfl (.tmp 125) (.tmp 136) 40 rfl lo 44 i0 (.agg #[.int .i64 0, .slice none 0 0]) 2 32 Try.underlying40 HI.out.1 HI.out.2.1 HI.out.2.2.1 HI.out.2.2.2 rfl (by decide) _ _ _ rfl ((P6.out.own.alloc _).alloc _) ⟨w6.heap.size + 1, 0, none⟩ 1 1 [.int .i64 (398 + (ob : Int)), rowVal w6.heap.size] rfl rfl (two_cells _ _ _ _ _) (by simp [rowVal, Value.oneCell']) (by unfold maxLen; omega) (by omega) (by have := L6.out; simp; omega) ?_; intro v' w8 hown hgr hnil)
                have P8 := Lib.hid (P6.out.more hown hgr L6.out)
                have h68 := (((Only.refl (fun q => (Value.slice (some ⟨gq, 0, none⟩) G.length cq).ownBlock = some q) w6).alloc (.cells (bvs (fullBytes cb 3)) 5)).alloc (.cells #[.int .i64 (398 + (ob : Int)), rowVal w6.heap.size] 44)).grown hgr (fun q hq => Or.inl hq)
                have hT : ∀ q, (Value.slice (some ⟨gq, 0, none⟩) G.length cq).ownBlock = some q → q = gq ∧ lo ≤ q := fun q hq => ⟨by simpa [Value.ownBlock] using hq.symm, (P6.out.own.lt q hq).1⟩
                have hgty : ∃ cur, w6.heap[gq]? = some (.cells cur 44 (0, 0)) := by
                  rcases P6.out.own.2 with ⟨e, _⟩ | ⟨g', cap, cur, e, _, hg, _⟩
                  · cases e
                  · cases e; exact ⟨cur, hg⟩
                have AP8 := Lib.hid (AP6.out.other h68 (fun q hq => by have := HLO.out; have := (hT q hq).2; omega))
                have S8 := Lib.hid (h68.keeps S6.out (fun e => by
                  obtain ⟨cur, hcur⟩ := hgty
                  rw [← (hT _ e).1, S6.out] at hcur
                  cases hcur))
                have L8 := Lib.hid (Nat.le_trans L6.out h68.size)
                clear hown hgr hnil h68 hT hgty
                go_wp2_with fail
                go_roundw
                case rel => exact ⟨q + 1, bl ++ [w6.heap.size], sl.set a true, _, _, by go_num, by omega, by omega, by simp; omega, AP8.out, P8.out, S8.out, by rw [← HCB.out]; exact U6.out, L8.out⟩
                case measure => simp [intOf]; omega
            · have hstop : (q = n1 ∧ ¬ q < n1) ∨ (q < n1 ∧ q = 20 ∧ ¬ q < 20) := by omega
              clear hgo
              obtain ⟨op, hop⟩ : ∃ op, op = 1 - par := ⟨_, rfl⟩
              have hop2 : op < 2 := by omega
              have hopp : op ≠ par := by omega
              have hwm : IntKind.i64.wrap (1 - (par : Int)) = (op : Int) := by rw [IntWalk.i64_in _ (by omega)]; omega
              have hopi : (op : Int) < 2 := by omega
              have hpi : (par : Int) < 2 := by omega
              clear hop
              rcases hstop with ⟨-, hstop⟩ | ⟨hstop1, -, hstop⟩
              · obtain ⟨gq, cq, hv⟩ := P5.out.shape
                subst hv
                have hgr := U5.out.group (at_ := ((199 * par : Nat) : Int)) (len := 438) (by omega) (by decide) (by omega) (by omega)
                obtain ⟨-, hpa⟩ := P5.out.puts (T := Three p r (jbs par)) (fun i hi => hgr.full i hi) (fun i hi => by
                  have := HLO.out
                  rcases (show par = 0 ∨ par = 1 by omega) with rfl | rfl <;> rcases hi with e | e | e <;> omega)
                have HPA := Lib.hid hpa
                have HGR := Lib.hid hgr
                have HHI := Lib.hid U5.out.high
                have hsh := U5.out.shows hgr TL.out
                have HSH := Lib.hid hsh
                have HL2 := Lib.hid (U5.out.hlen.trans HLEN.out)
                clear hpa hgr hsh
                have cj : wr.cell? ⟨sb, par, none⟩ = some (.pointer (some ⟨jbs par, 0, none⟩)) := (cellOf AP5.out.js par).trans (ptrs2_get jbs par hp2)
                obtain ⟨gn, hgn⟩ : ∃ gn, gn = G.length := ⟨_, rfl⟩
                have HGN := Lib.hid hgn
                rw [← hgn]
                clear hgn
                have hw30 : IntKind.i64.wrap ((k : Int) + 1) = (k : Int) + 1 := IntWalk.i64_in _ (by omega)
                go_wp2_with fail
                refine (AP5.out.commit par hp2 (by have := HGS.out par hp2; omega) (by omega) (some ⟨gq, 0, none⟩) G gn cq HGN.out HGR.out HHI.out HPA.out).mono ?_
                rintro e w9 ⟨rfl, ⟨D9, ap9, e9⟩, -⟩
                have AP9 := Lib.hid ap9
                have T9 := Lib.hid (HSH.out.same (E' := D9.get) e9)
                clear ap9 e9 cj cx
                have cn9 : w9.cell? ⟨nb, par, none⟩ = some (.int .i64 (gs par : Nat)) := (cellOf AP9.out.ns par).trans (ints2_get gs par hp2)
                have fn9 := freeOf AP9.out.ns par
                have hwg : IntKind.i64.wrap ((gs par : Int) + 1) = ((gs par + 1 : Nat) : Int) := by have := HGS.out par hp2; rw [IntWalk.i64_in _ (by omega)]; omega
                go_upto_region 33 with fail
                have ap10 := AP9.out.setn par (gs par + 1) hp2
                have hsv : Value.int .i64 ((gs par : Int) + 1) = .int .i64 ((gs par + 1 : Nat) : Int) := rfl
                rw [← hsv] at ap10
                have hgs2 : at2 gs par (gs par + 1) op = gs op := at2_other _ _ hopp
                have hgs3 : ∀ q, q < 2 → at2 gs par (gs par + 1) q ≤ k + 1 := fun q hq => by
                  unfold at2
                  have := HGS.out q hq
                  have := HGS.out par hp2
                  split <;> omega
                have AP10 := Lib.hid ap10
                have HGS3 := Lib.hid hgs3
                clear ap10 hsv cn9 fn9 hwg AP9 hgs2 hgs3
                generalize w9.setCell ⟨nb, par, none⟩ (.int .i64 ((gs par : Int) + 1)) = w10 at *
                generalize at2 gs par (gs par + 1) = gs2 at *
                have cp10 : w10.cell? ⟨pb, op, none⟩ = some (.int .i64 ((199 * op : Nat) : Int)) := (cellOf AP10.out.pl op).trans (ints2_get two199 op hop2)
                go_wp2_with fail
                refine (AP10.out.open op hop2 (by have := HGS3.out op hop2; omega) (by omega)).mono ?_
                rintro e w11 ⟨jb, D11, rfl, hjb, hjl, j11, ap11, e11, o11⟩
                have AP11 := Lib.hid ap11
                have J11 := Lib.hid j11
                have T11 := Lib.hid (T9.out.same (E' := D11.get) e11)
                have HJB := Lib.hid (show ∀ q, q < 2 → q ≠ op → jbs q ≠ jb from fun q hq _ => by
                  have := AP10.out.lts
                  rcases (show q = 0 ∨ q = 1 by omega) with rfl | rfl <;> omega)
                clear ap11 j11 e11 o11 hjb hjl cp10 AP10
                go_wp2_with fail
                have APD := Lib.hid AP11.out.drew
                have JD := Lib.hid J11.out.drew
                refine wp_region_grow (Only (fun _ => False)) (fun | 12 => some (fun v _ => v = .int .i64 (gs2 op : Nat)) | 23 => some (fun v _ => v = .int .i64 (gs2 par : Nat)) | _ => none) (by kernel_rfl) (by kernel_rfl) (Only.refl _) (fun _ _ _ => Only.trans) ?_ ?_
                · intro i V hV v w1 w2 hr hv
                  split at hV
                  · cases hV
                    exact hv
                  · cases hV
                    exact hv
                  · cases hV
                simp only [List.zipIdx_cons, List.zipIdx_nil, Nat.zero_add, Nat.reduceAdd]
                iterate 12 (refine grow_det ?_ rfl (fun w' => ?_) ?_; rotate_left 1; (unfold Runs; go_simp; rfl); try simp only [Act.put, List.setIfInBounds_toArray, List.set_cons_zero, List.set_cons_succ])
                refine grow_pred _ rfl (fun w' hr hf => ?_) (fun v => ?_)
                · have h1 := (JD.out.same hr).cells
                  unfold Gives gives
                  go_simp
                  refine (groups_calls _ p _ _ _ h1).mono ?_
                  rintro e w14 ⟨rfl, rfl⟩
                  first | exact ⟨_, rfl, Only.refl _ _, rfl⟩ | exact ⟨rfl, Only.refl _ _⟩
                simp only [Act.put, List.setIfInBounds_toArray, List.set_cons_zero, List.set_cons_succ]
                iterate 3 (refine grow_det ?_ rfl (fun w' => ?_) ?_; rotate_left 1; (unfold Runs; go_simp; rfl); try simp only [Act.put, List.setIfInBounds_toArray, List.set_cons_zero, List.set_cons_succ])
                refine grow_read (.int .i64 (gs2 op : Nat)) rfl (fun w' hr hf => ?_) ?_
                · have h1 : w'.cell? ⟨nb, op, none⟩ = some (.int .i64 (gs2 op : Nat)) := (cellOf (APD.out.same hr).ns op).trans (ints2_get gs2 op hop2)
                  unfold Runs
                  go_simp
                simp only [Act.put, List.setIfInBounds_toArray, List.set_cons_zero, List.set_cons_succ]
                refine grow_read (.bool false) rfl (fun w' hr hf => ?_) ?_
                · have h1 := hf 12 (by kernel_rfl)
                  rw [upd_self] at h1
                  subst h1
                  unfold Runs
                  go_simp
                simp only [Act.put, List.setIfInBounds_toArray, List.set_cons_zero, List.set_cons_succ]
                iterate 4 (refine grow_det ?_ rfl (fun w' => ?_) ?_; rotate_left 1; (unfold Runs; go_simp; rfl); try simp only [Act.put, List.setIfInBounds_toArray, List.set_cons_zero, List.set_cons_succ])
                refine grow_read (.pointer (some ⟨jbs par, 0, none⟩)) rfl (fun w' hr hf => ?_) ?_
                · have h1 : w'.cell? ⟨sb, par, none⟩ = some (.pointer (some ⟨jbs par, 0, none⟩)) := (cellOf (APD.out.same hr).js par).trans (ptrs2_get jbs par hp2)
                  unfold Runs
                  go_simp
                simp only [Act.put, List.setIfInBounds_toArray, List.set_cons_zero, List.set_cons_succ]
                refine grow_pred _ rfl (fun w' hr hf => ?_) (fun v => ?_)
                · have h1 := ((APD.out.same hr).st par hp2).cells
                  unfold Gives gives
                  go_simp
                  refine (groups_calls _ p _ _ _ h1).mono ?_
                  rintro e w14 ⟨rfl, rfl⟩
                  first | exact ⟨_, rfl, Only.refl _ _, rfl⟩ | exact ⟨rfl, Only.refl _ _⟩
                simp only [Act.put, List.setIfInBounds_toArray, List.set_cons_zero, List.set_cons_succ]
                iterate 2 (refine grow_det ?_ rfl (fun w' => ?_) ?_; rotate_left 1; (unfold Runs; go_simp; rfl); try simp only [Act.put, List.setIfInBounds_toArray, List.set_cons_zero, List.set_cons_succ])
                refine grow_read (.int .i64 (gs2 par : Nat)) rfl (fun w' hr hf => ?_) ?_
                · have h1 : w'.cell? ⟨nb, par, none⟩ = some (.int .i64 (gs2 par : Nat)) := (cellOf (APD.out.same hr).ns par).trans (ints2_get gs2 par hp2)
                  unfold Runs
                  go_simp
                simp only [Act.put, List.setIfInBounds_toArray, List.set_cons_zero, List.set_cons_succ]
                refine grow_read (.bool false) rfl (fun w' hr hf => ?_) ?_
                · have h1 := hf 23 (by kernel_rfl)
                  rw [upd_self] at h1
                  subst h1
                  unfold Runs
                  go_simp
                simp only [Act.put, List.setIfInBounds_toArray, List.set_cons_zero, List.set_cons_succ]
                iterate 1 (refine grow_det ?_ rfl (fun w' => ?_) ?_; rotate_left 1; (unfold Runs; go_simp; rfl); try simp only [Act.put, List.setIfInBounds_toArray, List.set_cons_zero, List.set_cons_succ])
                refine grow_end (fun w12 hr hf => ?_)
                clear hf
                have AP12 := Lib.hid (APD.out.same hr)
                have J12 := Lib.hid (JD.out.same hr)
                clear hr AP11 J11 APD JD
                have fs12 := freeOf AP12.out.js op
                have cs12 : w12.cell? ⟨sb, op, none⟩ = some (.pointer (some ⟨jbs op, 0, none⟩)) := (cellOf AP12.out.js op).trans (ptrs2_get jbs op hop2)
                go_wp2_with fail
                have AP13 := Lib.hid (AP12.out.setj op jb hop2 J12.out HJB.out)
                go_roundw
                case rel => exact ⟨k + 1, D11, at2 jbs op jb, gs2, hl2, by go_num, by omega, by omega, AP13.out.bound (by omega), T11.out, HL2.out, HGS3.out⟩
                case measure => simp [intOf]; omega
              · obtain ⟨gq, cq, hv⟩ := P5.out.shape
                subst hv
                have hgr := U5.out.group (at_ := ((199 * par : Nat) : Int)) (len := 438) (by omega) (by decide) (by omega) (by omega)
                obtain ⟨-, hpa⟩ := P5.out.puts (T := Three p r (jbs par)) (fun i hi => hgr.full i hi) (fun i hi => by
                  have := HLO.out
                  rcases (show par = 0 ∨ par = 1 by omega) with rfl | rfl <;> rcases hi with e | e | e <;> omega)
                have HPA := Lib.hid hpa
                have HGR := Lib.hid hgr
                have HHI := Lib.hid U5.out.high
                have hsh := U5.out.shows hgr TL.out
                have HSH := Lib.hid hsh
                have HL2 := Lib.hid (U5.out.hlen.trans HLEN.out)
                clear hpa hgr hsh
                have cj : wr.cell? ⟨sb, par, none⟩ = some (.pointer (some ⟨jbs par, 0, none⟩)) := (cellOf AP5.out.js par).trans (ptrs2_get jbs par hp2)
                obtain ⟨gn, hgn⟩ : ∃ gn, gn = G.length := ⟨_, rfl⟩
                have HGN := Lib.hid hgn
                rw [← hgn]
                clear hgn
                have hw30 : IntKind.i64.wrap ((k : Int) + 1) = (k : Int) + 1 := IntWalk.i64_in _ (by omega)
                go_wp2_with fail
                refine (AP5.out.commit par hp2 (by have := HGS.out par hp2; omega) (by omega) (some ⟨gq, 0, none⟩) G gn cq HGN.out HGR.out HHI.out HPA.out).mono ?_
                rintro e w9 ⟨rfl, ⟨D9, ap9, e9⟩, -⟩
                have AP9 := Lib.hid ap9
                have T9 := Lib.hid (HSH.out.same (E' := D9.get) e9)
                clear ap9 e9 cj cx
                have cn9 : w9.cell? ⟨nb, par, none⟩ = some (.int .i64 (gs par : Nat)) := (cellOf AP9.out.ns par).trans (ints2_get gs par hp2)
                have fn9 := freeOf AP9.out.ns par
                have hwg : IntKind.i64.wrap ((gs par : Int) + 1) = ((gs par + 1 : Nat) : Int) := by have := HGS.out par hp2; rw [IntWalk.i64_in _ (by omega)]; omega
                go_upto_region 33 with fail
                have ap10 := AP9.out.setn par (gs par + 1) hp2
                have hsv : Value.int .i64 ((gs par : Int) + 1) = .int .i64 ((gs par + 1 : Nat) : Int) := rfl
                rw [← hsv] at ap10
                have hgs2 : at2 gs par (gs par + 1) op = gs op := at2_other _ _ hopp
                have hgs3 : ∀ q, q < 2 → at2 gs par (gs par + 1) q ≤ k + 1 := fun q hq => by
                  unfold at2
                  have := HGS.out q hq
                  have := HGS.out par hp2
                  split <;> omega
                have AP10 := Lib.hid ap10
                have HGS3 := Lib.hid hgs3
                clear ap10 hsv cn9 fn9 hwg AP9 hgs2 hgs3
                generalize w9.setCell ⟨nb, par, none⟩ (.int .i64 ((gs par : Int) + 1)) = w10 at *
                generalize at2 gs par (gs par + 1) = gs2 at *
                have cp10 : w10.cell? ⟨pb, op, none⟩ = some (.int .i64 ((199 * op : Nat) : Int)) := (cellOf AP10.out.pl op).trans (ints2_get two199 op hop2)
                go_wp2_with fail
                refine (AP10.out.open op hop2 (by have := HGS3.out op hop2; omega) (by omega)).mono ?_
                rintro e w11 ⟨jb, D11, rfl, hjb, hjl, j11, ap11, e11, o11⟩
                have AP11 := Lib.hid ap11
                have J11 := Lib.hid j11
                have T11 := Lib.hid (T9.out.same (E' := D11.get) e11)
                have HJB := Lib.hid (show ∀ q, q < 2 → q ≠ op → jbs q ≠ jb from fun q hq _ => by
                  have := AP10.out.lts
                  rcases (show q = 0 ∨ q = 1 by omega) with rfl | rfl <;> omega)
                clear ap11 j11 e11 o11 hjb hjl cp10 AP10
                go_wp2_with fail
                have APD := Lib.hid AP11.out.drew
                have JD := Lib.hid J11.out.drew
                refine wp_region_grow (Only (fun _ => False)) (fun | 12 => some (fun v _ => v = .int .i64 (gs2 op : Nat)) | 23 => some (fun v _ => v = .int .i64 (gs2 par : Nat)) | _ => none) (by kernel_rfl) (by kernel_rfl) (Only.refl _) (fun _ _ _ => Only.trans) ?_ ?_
                · intro i V hV v w1 w2 hr hv
                  split at hV
                  · cases hV
                    exact hv
                  · cases hV
                    exact hv
                  · cases hV
                simp only [List.zipIdx_cons, List.zipIdx_nil, Nat.zero_add, Nat.reduceAdd]
                iterate 12 (refine grow_det ?_ rfl (fun w' => ?_) ?_; rotate_left 1; (unfold Runs; go_simp; rfl); try simp only [Act.put, List.setIfInBounds_toArray, List.set_cons_zero, List.set_cons_succ])
                refine grow_pred _ rfl (fun w' hr hf => ?_) (fun v => ?_)
                · have h1 := (JD.out.same hr).cells
                  unfold Gives gives
                  go_simp
                  refine (groups_calls _ p _ _ _ h1).mono ?_
                  rintro e w14 ⟨rfl, rfl⟩
                  first | exact ⟨_, rfl, Only.refl _ _, rfl⟩ | exact ⟨rfl, Only.refl _ _⟩
                simp only [Act.put, List.setIfInBounds_toArray, List.set_cons_zero, List.set_cons_succ]
                iterate 3 (refine grow_det ?_ rfl (fun w' => ?_) ?_; rotate_left 1; (unfold Runs; go_simp; rfl); try simp only [Act.put, List.setIfInBounds_toArray, List.set_cons_zero, List.set_cons_succ])
                refine grow_read (.int .i64 (gs2 op : Nat)) rfl (fun w' hr hf => ?_) ?_
                · have h1 : w'.cell? ⟨nb, op, none⟩ = some (.int .i64 (gs2 op : Nat)) := (cellOf (APD.out.same hr).ns op).trans (ints2_get gs2 op hop2)
                  unfold Runs
                  go_simp
                simp only [Act.put, List.setIfInBounds_toArray, List.set_cons_zero, List.set_cons_succ]
                refine grow_read (.bool false) rfl (fun w' hr hf => ?_) ?_
                · have h1 := hf 12 (by kernel_rfl)
                  rw [upd_self] at h1
                  subst h1
                  unfold Runs
                  go_simp
                simp only [Act.put, List.setIfInBounds_toArray, List.set_cons_zero, List.set_cons_succ]
                iterate 4 (refine grow_det ?_ rfl (fun w' => ?_) ?_; rotate_left 1; (unfold Runs; go_simp; rfl); try simp only [Act.put, List.setIfInBounds_toArray, List.set_cons_zero, List.set_cons_succ])
                refine grow_read (.pointer (some ⟨jbs par, 0, none⟩)) rfl (fun w' hr hf => ?_) ?_
                · have h1 : w'.cell? ⟨sb, par, none⟩ = some (.pointer (some ⟨jbs par, 0, none⟩)) := (cellOf (APD.out.same hr).js par).trans (ptrs2_get jbs par hp2)
                  unfold Runs
                  go_simp
                simp only [Act.put, List.setIfInBounds_toArray, List.set_cons_zero, List.set_cons_succ]
                refine grow_pred _ rfl (fun w' hr hf => ?_) (fun v => ?_)
                · have h1 := ((APD.out.same hr).st par hp2).cells
                  unfold Gives gives
                  go_simp
                  refine (groups_calls _ p _ _ _ h1).mono ?_
                  rintro e w14 ⟨rfl, rfl⟩
                  first | exact ⟨_, rfl, Only.refl _ _, rfl⟩ | exact ⟨rfl, Only.refl _ _⟩
                simp only [Act.put, List.setIfInBounds_toArray, List.set_cons_zero, List.set_cons_succ]
                iterate 2 (refine grow_det ?_ rfl (fun w' => ?_) ?_; rotate_left 1; (unfold Runs; go_simp; rfl); try simp only [Act.put, List.setIfInBounds_toArray, List.set_cons_zero, List.set_cons_succ])
                refine grow_read (.int .i64 (gs2 par : Nat)) rfl (fun w' hr hf => ?_) ?_
                · have h1 : w'.cell? ⟨nb, par, none⟩ = some (.int .i64 (gs2 par : Nat)) := (cellOf (APD.out.same hr).ns par).trans (ints2_get gs2 par hp2)
                  unfold Runs
                  go_simp
                simp only [Act.put, List.setIfInBounds_toArray, List.set_cons_zero, List.set_cons_succ]
                refine grow_read (.bool false) rfl (fun w' hr hf => ?_) ?_
                · have h1 := hf 23 (by kernel_rfl)
                  rw [upd_self] at h1
                  subst h1
                  unfold Runs
                  go_simp
                simp only [Act.put, List.setIfInBounds_toArray, List.set_cons_zero, List.set_cons_succ]
                iterate 1 (refine grow_det ?_ rfl (fun w' => ?_) ?_; rotate_left 1; (unfold Runs; go_simp; rfl); try simp only [Act.put, List.setIfInBounds_toArray, List.set_cons_zero, List.set_cons_succ])
                refine grow_end (fun w12 hr hf => ?_)
                clear hf
                have AP12 := Lib.hid (APD.out.same hr)
                have J12 := Lib.hid (JD.out.same hr)
                clear hr AP11 J11 APD JD
                have fs12 := freeOf AP12.out.js op
                have cs12 : w12.cell? ⟨sb, op, none⟩ = some (.pointer (some ⟨jbs op, 0, none⟩)) := (cellOf AP12.out.js op).trans (ptrs2_get jbs op hop2)
                go_wp2_with fail
                have AP13 := Lib.hid (AP12.out.setj op jb hop2 J12.out HJB.out)
                go_roundw
                case rel => exact ⟨k + 1, D11, at2 jbs op jb, gs2, hl2, by go_num, by omega, by omega, AP13.out.bound (by omega), T11.out, HL2.out, HGS3.out⟩
                case measure => simp [intOf]; omega
        · have hstop : (k = len0 ∧ ¬ k < len0) ∨ (k < len0 ∧ k = 30 ∧ ¬ k < 30) := by omega
          clear hgo
          rcases hstop with ⟨-, hstop⟩ | ⟨hstop1, -, hstop⟩
          · have hwx : True := trivial
            clear hwx
            go_wp2_with fail
            go_loopw [23] (fun i w5 => ∃ b : Nat, i = .int .i64 b ∧ b ≤ 40 ∧ Ap w.heap.size w w5 p r D jbs gs (1000 + 700 * k) pb sb nb hb gs hl) (fun i _ => 40 - (intOf i).toNat)
            case atStart => exact ⟨0, rfl, by omega, AP.out⟩
            case round =>
              clear AP
              obtain ⟨b, rfl, hb40, a5⟩ := hrel
              have A5 := Lib.hid a5
              clear a5
              by_cases hlt : b < 40
              · have hlti : (b : Int) < 40 := by omega
                have hwb : IntKind.i64.wrap (398 + (b : Int)) = 398 + (b : Int) := IntWalk.i64_in _ (by omega)
                have HRD := Lib.hid (read_st A5.out.d (398 + (b : Nat)) (code_on A5.out.fit.off (by omega) (by rw [A5.out.fit.len]; omega)))
                go_wp2_with fail
                refine HRD.out.mono ?_
                rintro e w6 ⟨b6, rfl, hrow6, hlen6, -, o6, -⟩
                have A6 := Lib.hid (A5.out.same o6)
                obtain ⟨c, hc⟩ : ∃ c, c = hl.getD b 0 := ⟨_, rfl⟩
                have HC := Lib.hid (show ∀ w', Only (fun _ => False) w6.drew w' → w'.cell? ⟨hb, b, none⟩ = some (.int .u8 (c.toNat : Nat)) from fun w' hr => by
                  have := bvs_cell (A6.out.drew.same hr).hs (j := b) (by rw [HLEN.out]; exact hlt)
                  rw [← hc] at this
                  exact this)
                have hcb := c.toNat_lt
                have hT := TL.out b (by rw [HLEN.out]; exact hlt)
                rw [← hc] at hT
                clear o6 hc A5
                go_wp2_with fail
                by_cases hpos : c > 0
                · have hp2 : (0 : Int) < ((c.toNat : Nat) : Int) := by have := UInt8.lt_iff_toNat_lt.1 hpos; simp at this; omega
                  have hp3 : 0 < c.toNat := by omega
                  rw [hT hpos] at hrow6
                  have R6 := Lib.hid hrow6
                  clear hrow6 hlen6 hT hpos
                  refine wp_region_grow (Only (fun _ => False)) (fun | 13 => some (fun v w' => ∃ b, v = .slice (some ⟨b, 0, none⟩) 64 64 ∧ RowAt w' ⟨b, 0, none⟩ (fullBytes c 3)) | _ => none) (by kernel_rfl) (by kernel_rfl) (Only.refl _) (fun _ _ _ => Only.trans) ?_ ?_
                  · intro i V hV v w1 w2 hr hv
                    split at hV
                    · cases hV
                      obtain ⟨b, hb, hrow⟩ := hv
                      exact ⟨b, hb, hrow.grow hr (by rw [fullBytes_length]; decide)⟩
                    · cases hV
                  simp only [List.zipIdx_cons, List.zipIdx_nil, Nat.zero_add, Nat.reduceAdd]
                  iterate 5 (refine grow_det ?_ rfl (fun w' => ?_) ?_; rotate_left 1; (unfold Runs; go_simp; rfl); try simp only [Act.put, List.setIfInBounds_toArray, List.set_cons_zero, List.set_cons_succ])
                  refine grow_read (.int .u8 (c.toNat : Nat)) rfl (fun w' hr hf => ?_) ?_
                  · have h1 : w'.cell? ⟨hb, b, none⟩ = some (.int .u8 (c.toNat : Nat)) := HC.out w' hr
                    unfold Runs
                    go_simp
                  simp only [Act.put, List.setIfInBounds_toArray, List.set_cons_zero, List.set_cons_succ]
                  refine grow_read (.bool true) rfl (fun w' hr hf => ?_) ?_
                  · unfold Runs
                    go_simp
                  simp only [Act.put, List.setIfInBounds_toArray, List.set_cons_zero, List.set_cons_succ]
                  iterate 2 (refine grow_det ?_ rfl (fun w' => ?_) ?_; rotate_left 1; (unfold Runs; go_simp; rfl); try simp only [Act.put, List.setIfInBounds_toArray, List.set_cons_zero, List.set_cons_succ])
                  refine grow_read (.string (strOf (fullBytes c 3))) rfl (fun w' hr hf => ?_) ?_
                  · have h1 := conv_any (fullBytes c 3) (fullBytes_length c 3) b6 w' (R6.out.drew.grow hr (by rw [fullBytes_length]; decide))
                    unfold Runs
                    go_simp
                  simp only [Act.put, List.setIfInBounds_toArray, List.set_cons_zero, List.set_cons_succ]
                  iterate 2 (refine grow_det ?_ rfl (fun w' => ?_) ?_; rotate_left 1; (unfold Runs; go_simp; rfl); try simp only [Act.put, List.setIfInBounds_toArray, List.set_cons_zero, List.set_cons_succ])
                  refine grow_read (.int .u8 (c.toNat : Nat)) rfl (fun w' hr hf => ?_) ?_
                  · have h1 : w'.cell? ⟨hb, b, none⟩ = some (.int .u8 (c.toNat : Nat)) := HC.out w' hr
                    unfold Runs
                    go_simp
                  simp only [Act.put, List.setIfInBounds_toArray, List.set_cons_zero, List.set_cons_succ]
                  refine grow_pred _ rfl (fun w' hr hf => ?_) (fun v => ?_)
                  · have h1 := A6.out.drew.d.same hr
                    unfold Gives gives
                    go_simp
                    refine (full_st h1 c 3 _ _ rfl rfl).mono ?_
                    rintro e w14 ⟨b7, rfl, r7, -, o14, -⟩
                    exact ⟨_, rfl, o14, b7, rfl, r7⟩
                  simp only [Act.put, List.setIfInBounds_toArray, List.set_cons_zero, List.set_cons_succ]
                  refine grow_read (.string (strOf (fullBytes c 3))) rfl (fun w' hr hf => ?_) ?_
                  · have h1 := hf 13 (by kernel_rfl)
                    rw [upd_self] at h1
                    obtain ⟨b7, rfl, r7⟩ := h1
                    have h2 := conv_any (fullBytes c 3) (fullBytes_length c 3) b7 w' r7
                    unfold Runs
                    go_simp
                  simp only [Act.put, List.setIfInBounds_toArray, List.set_cons_zero, List.set_cons_succ]
                  iterate 3 (refine grow_det ?_ rfl (fun w' => ?_) ?_; rotate_left 1; (unfold Runs; go_simp; rfl); try simp only [Act.put, List.setIfInBounds_toArray, List.set_cons_zero, List.set_cons_succ])
                  refine grow_end (fun w8 hr hf => ?_)
                  clear hf
                  have A8 := Lib.hid (A6.out.drew.same hr)
                  clear hr A6 R6 HC
                  go_wp2_with fail
                  go_roundw
                  case rel => exact ⟨b + 1, by go_num, by omega, A8.out⟩
                  case measure => simp [intOf]; omega
                · have hp2 : ((c.toNat : Nat) : Int) = 0 := by
                    have : ¬ 0 < c.toNat := fun h => hpos (UInt8.lt_iff_toNat_lt.2 (by simpa using h))
                    omega
                  have R6 := Lib.hid hrow6
                  clear hrow6 hlen6 hT hpos
                  refine wp_region_grow (Only (fun _ => False)) (fun | _ => none) (by kernel_rfl) (by kernel_rfl) (Only.refl _) (fun _ _ _ => Only.trans) ?_ ?_
                  · intro i V hV
                    cases hV
                  simp only [List.zipIdx_cons, List.zipIdx_nil, Nat.zero_add, Nat.reduceAdd]
                  iterate 5 (refine grow_det ?_ rfl (fun w' => ?_) ?_; rotate_left 1; (unfold Runs; go_simp; rfl); try simp only [Act.put, List.setIfInBounds_toArray, List.set_cons_zero, List.set_cons_succ])
                  refine grow_read (.int .u8 0) rfl (fun w' hr hf => ?_) ?_
                  · have h1 : w'.cell? ⟨hb, b, none⟩ = some (.int .u8 0) := by rw [HC.out w' hr, hp2]
                    unfold Runs
                    go_simp
                  simp only [Act.put, List.setIfInBounds_toArray, List.set_cons_zero, List.set_cons_succ]
                  iterate 12 (refine grow_det ?_ rfl (fun w' => ?_) ?_; rotate_left 1; (unfold Runs; go_simp; rfl); try simp only [Act.put, List.setIfInBounds_toArray, List.set_cons_zero, List.set_cons_succ])
                  refine grow_end (fun w8 hr hf => ?_)
                  clear hf
                  have A8 := Lib.hid (A6.out.drew.same hr)
                  clear hr A6 R6 HC
                  go_wp2_with fail
                  go_roundw
                  case rel => exact ⟨b + 1, by go_num, by omega, A8.out⟩
                  case measure => simp [intOf]; omega
              · have hlti : ¬ (b : Int) < 40 := by omega
                go_wp2_with fail
                go_ret
                exact ⟨rfl, A5.out.d.below⟩
          · have hwx : True := trivial
            clear hwx
            go_wp2_with fail
            go_loopw [23] (fun i w5 => ∃ b : Nat, i = .int .i64 b ∧ b ≤ 40 ∧ Ap w.heap.size w w5 p r D jbs gs (1000 + 700 * k) pb sb nb hb gs hl) (fun i _ => 40 - (intOf i).toNat)
            case atStart => exact ⟨0, rfl, by omega, AP.out⟩
            case round =>
              clear AP
              obtain ⟨b, rfl, hb40, a5⟩ := hrel
              have A5 := Lib.hid a5
              clear a5
              by_cases hlt : b < 40
              · have hlti : (b : Int) < 40 := by omega
                have hwb : IntKind.i64.wrap (398 + (b : Int)) = 398 + (b : Int) := IntWalk.i64_in _ (by omega)
                have HRD := Lib.hid (read_st A5.out.d (398 + (b : Nat)) (code_on A5.out.fit.off (by omega) (by rw [A5.out.fit.len]; omega)))
                go_wp2_with fail
                refine HRD.out.mono ?_
                rintro e w6 ⟨b6, rfl, hrow6, hlen6, -, o6, -⟩
                have A6 := Lib.hid (A5.out.same o6)
                obtain ⟨c, hc⟩ : ∃ c, c = hl.getD b 0 := ⟨_, rfl⟩
                have HC := Lib.hid (show ∀ w', Only (fun _ => False) w6.drew w' → w'.cell? ⟨hb, b, none⟩ = some (.int .u8 (c.toNat : Nat)) from fun w' hr => by
                  have := bvs_cell (A6.out.drew.same hr).hs (j := b) (by rw [HLEN.out]; exact hlt)
                  rw [← hc] at this
                  exact this)
                have hcb := c.toNat_lt
                have hT := TL.out b (by rw [HLEN.out]; exact hlt)
                rw [← hc] at hT
                clear o6 hc A5
                go_wp2_with fail
                by_cases hpos : c > 0
                · have hp2 : (0 : Int) < ((c.toNat : Nat) : Int) := by have := UInt8.lt_iff_toNat_lt.1 hpos; simp at this; omega
                  have hp3 : 0 < c.toNat := by omega
                  rw [hT hpos] at hrow6
                  have R6 := Lib.hid hrow6
                  clear hrow6 hlen6 hT hpos
                  refine wp_region_grow (Only (fun _ => False)) (fun | 13 => some (fun v w' => ∃ b, v = .slice (some ⟨b, 0, none⟩) 64 64 ∧ RowAt w' ⟨b, 0, none⟩ (fullBytes c 3)) | _ => none) (by kernel_rfl) (by kernel_rfl) (Only.refl _) (fun _ _ _ => Only.trans) ?_ ?_
                  · intro i V hV v w1 w2 hr hv
                    split at hV
                    · cases hV
                      obtain ⟨b, hb, hrow⟩ := hv
                      exact ⟨b, hb, hrow.grow hr (by rw [fullBytes_length]; decide)⟩
                    · cases hV
                  simp only [List.zipIdx_cons, List.zipIdx_nil, Nat.zero_add, Nat.reduceAdd]
                  iterate 5 (refine grow_det ?_ rfl (fun w' => ?_) ?_; rotate_left 1; (unfold Runs; go_simp; rfl); try simp only [Act.put, List.setIfInBounds_toArray, List.set_cons_zero, List.set_cons_succ])
                  refine grow_read (.int .u8 (c.toNat : Nat)) rfl (fun w' hr hf => ?_) ?_
                  · have h1 : w'.cell? ⟨hb, b, none⟩ = some (.int .u8 (c.toNat : Nat)) := HC.out w' hr
                    unfold Runs
                    go_simp
                  simp only [Act.put, List.setIfInBounds_toArray, List.set_cons_zero, List.set_cons_succ]
                  refine grow_read (.bool true) rfl (fun w' hr hf => ?_) ?_
                  · unfold Runs
                    go_simp
                  simp only [Act.put, List.setIfInBounds_toArray, List.set_cons_zero, List.set_cons_succ]
                  iterate 2 (refine grow_det ?_ rfl (fun w' => ?_) ?_; rotate_left 1; (unfold Runs; go_simp; rfl); try simp only [Act.put, List.setIfInBounds_toArray, List.set_cons_zero, List.set_cons_succ])
                  refine grow_read (.string (strOf (fullBytes c 3))) rfl (fun w' hr hf => ?_) ?_
                  · have h1 := conv_any (fullBytes c 3) (fullBytes_length c 3) b6 w' (R6.out.drew.grow hr (by rw [fullBytes_length]; decide))
                    unfold Runs
                    go_simp
                  simp only [Act.put, List.setIfInBounds_toArray, List.set_cons_zero, List.set_cons_succ]
                  iterate 2 (refine grow_det ?_ rfl (fun w' => ?_) ?_; rotate_left 1; (unfold Runs; go_simp; rfl); try simp only [Act.put, List.setIfInBounds_toArray, List.set_cons_zero, List.set_cons_succ])
                  refine grow_read (.int .u8 (c.toNat : Nat)) rfl (fun w' hr hf => ?_) ?_
                  · have h1 : w'.cell? ⟨hb, b, none⟩ = some (.int .u8 (c.toNat : Nat)) := HC.out w' hr
                    unfold Runs
                    go_simp
                  simp only [Act.put, List.setIfInBounds_toArray, List.set_cons_zero, List.set_cons_succ]
                  refine grow_pred _ rfl (fun w' hr hf => ?_) (fun v => ?_)
                  · have h1 := A6.out.drew.d.same hr
                    unfold Gives gives
                    go_simp
                    refine (full_st h1 c 3 _ _ rfl rfl).mono ?_
                    rintro e w14 ⟨b7, rfl, r7, -, o14, -⟩
                    exact ⟨_, rfl, o14, b7, rfl, r7⟩
                  simp only [Act.put, List.setIfInBounds_toArray, List.set_cons_zero, List.set_cons_succ]
                  refine grow_read (.string (strOf (fullBytes c 3))) rfl (fun w' hr hf => ?_) ?_
                  · have h1 := hf 13 (by kernel_rfl)
                    rw [upd_self] at h1
                    obtain ⟨b7, rfl, r7⟩ := h1
                    have h2 := conv_any (fullBytes c 3) (fullBytes_length c 3) b7 w' r7
                    unfold Runs
                    go_simp
                  simp only [Act.put, List.setIfInBounds_toArray, List.set_cons_zero, List.set_cons_succ]
                  iterate 3 (refine grow_det ?_ rfl (fun w' => ?_) ?_; rotate_left 1; (unfold Runs; go_simp; rfl); try simp only [Act.put, List.setIfInBounds_toArray, List.set_cons_zero, List.set_cons_succ])
                  refine grow_end (fun w8 hr hf => ?_)
                  clear hf
                  have A8 := Lib.hid (A6.out.drew.same hr)
                  clear hr A6 R6 HC
                  go_wp2_with fail
                  go_roundw
                  case rel => exact ⟨b + 1, by go_num, by omega, A8.out⟩
                  case measure => simp [intOf]; omega
                · have hp2 : ((c.toNat : Nat) : Int) = 0 := by
                    have : ¬ 0 < c.toNat := fun h => hpos (UInt8.lt_iff_toNat_lt.2 (by simpa using h))
                    omega
                  have R6 := Lib.hid hrow6
                  clear hrow6 hlen6 hT hpos
                  refine wp_region_grow (Only (fun _ => False)) (fun | _ => none) (by kernel_rfl) (by kernel_rfl) (Only.refl _) (fun _ _ _ => Only.trans) ?_ ?_
                  · intro i V hV
                    cases hV
                  simp only [List.zipIdx_cons, List.zipIdx_nil, Nat.zero_add, Nat.reduceAdd]
                  iterate 5 (refine grow_det ?_ rfl (fun w' => ?_) ?_; rotate_left 1; (unfold Runs; go_simp; rfl); try simp only [Act.put, List.setIfInBounds_toArray, List.set_cons_zero, List.set_cons_succ])
                  refine grow_read (.int .u8 0) rfl (fun w' hr hf => ?_) ?_
                  · have h1 : w'.cell? ⟨hb, b, none⟩ = some (.int .u8 0) := by rw [HC.out w' hr, hp2]
                    unfold Runs
                    go_simp
                  simp only [Act.put, List.setIfInBounds_toArray, List.set_cons_zero, List.set_cons_succ]
                  iterate 12 (refine grow_det ?_ rfl (fun w' => ?_) ?_; rotate_left 1; (unfold Runs; go_simp; rfl); try simp only [Act.put, List.setIfInBounds_toArray, List.set_cons_zero, List.set_cons_succ])
                  refine grow_end (fun w8 hr hf => ?_)
                  clear hf
                  have A8 := Lib.hid (A6.out.drew.same hr)
                  clear hr A6 R6 HC
                  go_wp2_with fail
                  go_roundw
                  case rel => exact ⟨b + 1, by go_num, by omega, A8.out⟩
                  case measure => simp [intOf]; omega
              · have hlti : ¬ (b : Int) < 40 := by omega
                go_wp2_with fail
                go_ret
                exact ⟨rfl, A5.out.d.below⟩

/-! ### THE ROW's STEP -/
set_option maxRecDepth 100000 in
theorem lifted (os : Os) (started : os.Started) (H : Type) (enc : TypeId × Value → H) :
    ReturnsInHanded {} Try.checked os 6 .any (Rows.journalApartSpec.pre6 enc Try.prog Try.f6 Rows.journalApartRow.domain false) (Rows.journalApartSpec.post enc Try.prog Try.f6 false true false false) := by
  refine returnsInHanded_of_change (C := Try.checked) own started (by kernel_rfl) Try.func6
    (ChangeSpec.witness6 (enc := enc) (C := Try.checked) false ⟨#[], #[.slice none 0 0], []⟩ 8 (by kernel_rfl) (by kernel_rfl) (by kernel_rfl) (by kernel_rfl)) ?_
  intro W base args ds gs before hval0 hW hcnd _
  have hval : ∀ (j : Nat) t v, Try.f6.params[j]? = some t → args[j]? = some v → Value.okWide Try.prog W .any base t v := hval0
  have hW' := hW
  obtain ⟨p, q, hA0, hV, rfl, hfz, hnd⟩ := hW
  have hA : DataW.TrodAll enc Try.prog W 0 (fun _ => true) true Try.f6.params.toList args.toList ds p := hA0
  rw [Try.params6] at hA hval
  obtain ⟨v0, vs0, d0, ds0, p0, q0, hargs, rfl, rfl, h0, r0⟩ := trodAll_cons hA
  obtain ⟨rfl, rfl, rfl⟩ := trodAll_nil r0
  obtain rfl : args = #[v0] := by cases args; simp_all
  obtain ⟨rfl, rfl⟩ := trodVars_none hV
  obtain ⟨a0, len0, cap0, rfl⟩ := okWide_slice Try.underlying36 (hval 0 36 v0 rfl rfl)
  have k0 := h0
  have lt0 : ∀ x ∈ p0, x.block < W.heap.size := by obtain ⟨m, hm⟩ := k0; exact DataW.trod_lt m _ _ _ hm
  have w0 : RowsArg W a0 len0 := by
    obtain ⟨fuel, hf⟩ := h0
    exact rows_open hf
  clear hA0 hval0
  refine (walk a0 len0 cap0 W w0).mono fun e W' ⟨he, bel⟩ => ?_
  subst he
  exact ⟨_, rfl, _, _, _, [], _, [], hW', trodAll_mk1 (shut_bool Try.underlying4 _), (trodAll_cons_mk (Below.trod laidOut (by kernel_rfl) (of_decide_eq_true (by kernel_rfl)) k0 bel lt0) trodAll_mk0), rfl, bel.frame _, fun h => by cases h⟩

theorem over : Rows.journalApartRow.holds Try.pinned (OpenSpec.ofChange Rows.journalApartSpec) :=
  OpenClaim.holds_of_wide 6 Try.f6 rfl rfl rfl rfl rfl rfl rfl ⟨rfl, rfl, rfl, rfl, rfl⟩ rfl rfl rfl rfl rfl (by kernel_rfl) Try.func6 (by kernel_rfl)
    (of_decide_eq_true (by kernel_rfl)) (by unfold Func.isWrapper; first | (rw [if_pos (by decide +kernel)]; kernel_rfl) | (rw [if_neg (by decide +kernel)]; exact ⟨rfl, rfl⟩))
    (fun os started H enc _ => lifted os started H enc)

theorem proved : Rows.JournalApartSaid := over
#print axioms proved
end Go.Proofs.Ytpmlmjbhgonegaa.journalApart
