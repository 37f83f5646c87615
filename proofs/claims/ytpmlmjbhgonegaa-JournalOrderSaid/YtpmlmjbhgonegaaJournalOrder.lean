/- JournalOrder: groups that were done one behind the other leave each block as the last one that wrote it said; and Groups counts them: for any bytes. -/
import Derived.Test.YtpmlmjbhgonegaaRows
import Derived.Test.YtpmlmjbhgonegaaJSeen
import Derived.Test.YtpmlmjbhgonegaaRowsArg
import Derived.ProofKit
import Derived.OpenShut
import Derived.ShutString
import Derived.ChangeOld
namespace Go.Proofs.Ytpmlmjbhgonegaa.journalOrder
open Go.ChangeShapes Go.WideShapes Go.ChangeAt Go.RowKit
open Go.ChangeMaps (open_string shut_string)
set_option linter.unusedVariables false

theorem own : ownKnob Try.prog.godebug = none := by kernel_rfl
theorem laidOut : laidOutB Try.prog = true := by kernel_rfl
theorem only_below {w w' : World} (o : Only (fun _ => False) w w') : Below w.heap.size w w' := o.below (Below.refl _ _) (Nat.le_refl _) (fun _ e => e.elim)
def zeros60 : List UInt8 := List.replicate 60 0
def falses60 : List Bool := List.replicate 60 false
theorem wants_zero (a : Nat) : wants zeros60 a = zeros64 := by
  have : zeros60.getD a 0 = 0 := by
    unfold zeros60
    rw [List.getD_eq_getElem?_getD, List.getElem?_replicate]
    split <;> rfl
  unfold wants
  rw [this, if_neg (by decide)]
theorem full_eq (w : World) (c z : UInt8) (n m : Int) (hn : n = c.toNat) (hm : m = z.toNat) :
    Calls Try.prog 16 #[.int .u8 n, .int .u8 m] w fun e w' => e = .returned (.slice (some ⟨w.heap.size, 0, none⟩) 64 64) ∧ w' = w.alloc (.cells (bvs (fullBytes c z)) 5) := by
  subst hn hm
  exact full_calls w c z

set_option maxRecDepth 100000 in
set_option maxHeartbeats 8000000 in
theorem walk (a0 : Option Addr) (len0 cap0 : Nat) (w : World) (w0 : RowsArg w a0 len0) :
    Calls Try.prog 4 #[.slice a0 len0 cap0] w fun e w' => e = .returned (.bool true) ∧ Below w.heap.size w w' := by
  obtain ⟨hl0, hc0⟩ := w0
  have C0 := Lib.hid hc0
  clear hc0
  obtain ⟨i0, hi0⟩ := put_info
  have HI := Lib.hid hi0
  clear hi0
  have SH := Lib.hid (shown_calls w)
  have hbuild : ∀ w, (Instr.build 39 #[]).run Try.prog w = .ok (.agg (bvs zeros60)) w := fun w => by kernel_rfl
  have hzero : ∀ w, (zeroValue 39).run Try.prog w = .ok (.agg (bvs zeros60)) w := fun w => by kernel_rfl
  have hsz : (bvs zeros60).size = 60 := by rfl
  have hst := fun w => run_storeCells_new Try.prog w (bvs zeros60) zeros60 39 rfl
  go_enter Try.func4, Try.ntmps4
  go_wp2_with fail
  refine SH.out.mono ?_
  rintro e w1 ⟨rfl, o1⟩
  have HB := Lib.hid (only_below o1)
  have O1 := Lib.hid o1
  clear o1
  go_wp2_with fail
  refine (ground_calls (B := w.heap.size) (w0 := w) 0 (by omega) (by omega) HB.out.size HB.out).mono ?_
  rintro e w2 ⟨p, r, jb, D, rfl, j2, o2, f2, cl2, hp, hr, hj⟩
  have J := Lib.hid j2
  have F := Lib.hid f2
  have CL := Lib.hid cl2
  have HLT := Lib.hid (show p < w2.heap.size ∧ r < w2.heap.size ∧ jb < w2.heap.size from ⟨lt_of_heap j2.st.disk.cells, by obtain ⟨_, _, hm, _⟩ := j2.st.disk.map; exact lt_of_heap hm, lt_of_heap j2.cells⟩)
  clear j2 o2 f2 cl2 hp hr hj
  go_wp2_with fail
  clear hbuild hzero hsz hst
  have J3 := Lib.hid (J.out.same ((Only.refl _ w2).alloc (.cells (bvs zeros60) 39)))
  have hhb : (w2.alloc (.cells (bvs zeros60) 39)).heap[w2.heap.size]? = some (.cells (bvs zeros60) 39 (0, 0)) := heap_alloc_new _ _
  have HHB := Lib.hid hhb
  obtain ⟨hb, hhb2⟩ : ∃ hb, hb = w2.heap.size := ⟨_, rfl⟩
  rw [← hhb2] at HHB ⊢
  have HBE := Lib.hid hhb2
  have HB2 := Lib.hid (show w.heap.size ≤ hb from by rw [hhb2]; exact J.out.st.hB)
  clear hhb hhb2
  generalize w2.alloc (.cells (bvs zeros60) 39) = w3 at *
  go_loopw [7] (fun i wr => ∃ (k : Nat) (D : DK) (hl : List UInt8) (E : Img), i = .int .i64 k ∧ k ≤ len0 ∧ k ≤ 30 ∧ JSt w.heap.size w wr p r D jb 0 (k : Nat) ∧ Fit D 259 (2000 + 400 * k) ∧ Clean 0 k D.get E ∧ hl.length = 60 ∧ (∀ a, a < 60 → E (199 + (a : Nat)) = wants hl a) ∧ wr.heap[hb]? = some (.cells (bvs hl) 39 (0, 0))) (fun i _ => 30 - (intOf i).toNat)
  case atStart => exact ⟨0, D, zeros60, zeroImg, rfl, by omega, by omega, J3.out, ⟨F.out.len, F.out.off, F.out.fuse, F.out.under.mono (by decide)⟩, CL.out, by simp [zeros60], fun a _ => (wants_zero a).symm, HHB.out⟩
  case round =>
    obtain ⟨k, D, hl, E, rfl, hk1, hk2, hj, hf, hcl, hlen, hE, hrow⟩ := hrel
    have J := Lib.hid hj
    have F := Lib.hid hf
    have CL := Lib.hid hcl
    have HLEN := Lib.hid hlen
    have HE := Lib.hid hE
    have HROW := Lib.hid hrow
    clear hj hf hcl hlen hE hrow
    by_cases hgo : k < len0 ∧ k < 30
    · obtain ⟨hlt, hlt30⟩ := hgo
      have hlt30i : decide ((k : Int) < 30) = true := decide_eq_true (by omega)
      have hbuild : ∀ w, (Instr.build 41 #[]).run Try.prog w = .ok (.agg (bools falses60)) w := fun w => by kernel_rfl
      have hzero : ∀ w, (zeroValue 41).run Try.prog w = .ok (.agg (bools falses60)) w := fun w => by kernel_rfl
      have hsz : (bools falses60).size = 60 := by rfl
      have hst := run_storeBools_new Try.prog (wr.alloc (.cells #[] 44)) (bools falses60) falses60 41 rfl
      rw [heap_alloc_size] at hst
      go_wp2_with fail
      clear hbuild hzero hsz hst
      have o4 := ((Only.refl (fun _ => False) wr).alloc (.cells #[] 44)).alloc (.cells (bools falses60) 41)
      have J4 := Lib.hid (J.out.same o4)
      have HROW4 := Lib.hid (o4.keeps HROW.out (fun e => e))
      have P4 := Lib.hid ((PutsOwn.start wr).none ((Only.refl (fun _ => False) _).alloc (.cells (bools falses60) 41)))
      have hsb : ((wr.alloc (.cells #[] 44)).alloc (.cells (bools falses60) 41)).heap[wr.heap.size + 1]? = some (.cells (bools falses60) 41 (0, 0)) := by
        have := heap_alloc_new (wr.alloc (.cells #[] 44)) (.cells (bools falses60) 41)
        rwa [heap_alloc_size] at this
      have HSB := Lib.hid hsb
      obtain ⟨lo, hlo⟩ : ∃ lo, lo = wr.heap.size := ⟨_, rfl⟩
      have HLO := Lib.hid (show hb < lo ∧ p < lo ∧ r < lo ∧ jb < lo ∧ w.heap.size ≤ lo from by
        rw [hlo]
        exact ⟨lt_of_heap HROW.out, lt_of_heap J.out.st.disk.cells, by obtain ⟨_, _, hm, _⟩ := J.out.st.disk.map; exact lt_of_heap hm, lt_of_heap J.out.cells, J.out.st.hB⟩)
      obtain ⟨x, a1, n1, c1, rfl, hxl, hxc, hl1, z1, hz1, hc1⟩ := C0.out k hlt
      have XC := Lib.hid (And.intro hxl hxc)
      have C1 := Lib.hid hc1
      rw [← hlo] at P4 HSB ⊢
      clear o4 hsb hlo hxl hxc hc1 hz1
      have hsz4 : lo + 2 = ((wr.alloc (.cells #[] 44)).alloc (.cells (bools falses60) 41)).heap.size → True := fun _ => trivial
      generalize (wr.alloc (.cells #[] 44)).alloc (.cells (bools falses60) 41) = w4 at *
      clear hsz4
      go_loopw [10, 8] (fun j v w5 => ∃ (q : Nat) (bl : List Nat) (sl : List Bool) (hl2 : List UInt8) (G : List (Int × List UInt8)), j = .int .i64 q ∧ q ≤ n1 ∧ q ≤ 40 ∧ G.length ≤ q ∧ JSt w.heap.size w w5 p r D jb 0 (k : Nat) ∧ PutsOwn lo w5 v bl G ∧ w5.heap[lo + 1]? = some (.cells (bools sl) 41 (0, 0)) ∧ w5.heap[hb]? = some (.cells (bvs hl2) 39 (0, 0)) ∧ Under (UInt8.ofNat (k + 1)) 199 hl sl hl2 G 60 ∧ lo ≤ w5.heap.size) (fun j _ _ => 40 - (intOf j).toNat)
      case atStart => exact ⟨0, [], falses60, hl, [], rfl, by omega, by omega, by simp, J4.out, P4.out, HSB.out, HROW4.out, Under.start _ _ _ 60 HLEN.out, by have := lt_of_heap HSB.out; omega⟩
      case round =>
        obtain ⟨q, bl, sl, hl2, G, rfl, hq1, hq2, hGq, hj5, hp5, hs5, hh5, hu5, hlo5⟩ := hrel
        have J5 := Lib.hid hj5
        have P5 := Lib.hid hp5
        have S5 := Lib.hid hs5
        have H5 := Lib.hid hh5
        have U5 := Lib.hid hu5
        have L5 := Lib.hid hlo5
        have cx := (J5.out.st.below.cell (p := x.add k) (by rw [add_block]; exact XC.out.1)).trans XC.out.2
        clear hj5 hp5 hs5 hh5 hu5 hlo5
        by_cases hgo : q < n1 ∧ q < 40
        · obtain ⟨hltq, hltq40⟩ := hgo
          have hltq40i : decide ((q : Int) < 40) = true := decide_eq_true (by omega)
          obtain ⟨y, rfl, hyl, hyc⟩ := C1.out q hltq
          have cy := (J5.out.st.below.cell (p := y.add q) (by rw [add_block]; exact hyl)).trans hyc
          have hyb := (z1.getD q 0).toNat_lt
          unfold bv at cy
          generalize (z1.getD q 0).toNat = yb at *
          obtain ⟨a, ha⟩ : ∃ a, a = yb % 60 := ⟨_, rfl⟩
          have hmod : (yb : Int) % 60 = (a : Int) := by omega
          have ha60 : a < 60 := by omega
          have HAB := Lib.hid ha
          have hw5 : IntKind.i64.wrap (yb : Int) = yb := IntWalk.i64_in _ (by omega)
          have cs := bools_cell S5.out (j := a) (by rw [U5.out.slen]; exact ha60)
          obtain ⟨sv, hsv⟩ : ∃ sv, sl.getD a false = sv := ⟨_, rfl⟩
          rw [hsv] at cs
          have HSV := Lib.hid hsv
          clear ha hsv hyl hyc
          cases sv with
          | true =>
            go_wp2_with fail
            go_roundw
            case rel => exact ⟨q + 1, bl, sl, hl2, G, by go_num, by omega, by omega, by omega, J5.out, P5.out, S5.out, H5.out, U5.out, L5.out⟩
            case measure => simp [intOf]; omega
          | false =>
            have hwc : IntKind.u8.wrap ((k : Int) + 1) = (k : Int) + 1 := IntWalk.u8_in _ (by omega)
            have hwa : IntKind.u8.wrap (a : Int) = a := IntWalk.u8_in _ (by omega)
            have fs := freeOf S5.out a
            have fh := freeOf H5.out a
            have hh6 := ((Only.refl (· = lo + 1) wr).put a (.bool true)).keeps H5.out (by have := HLO.out; omega)
            have ch := bvs_cell hh6 (j := a) (by rw [U5.out.hlen]; exact ha60)
            have fh2 := freeOf hh6 a
            have HH6 := Lib.hid hh6
            clear hh6
            go_wp2_with fail
            have o6 : Only (fun q => q = lo + 1 ∨ q = hb) wr ((wr.setCell ⟨lo + 1, a, none⟩ (.bool true)).setCell ⟨hb, a, none⟩ (.int .u8 ((k : Int) + 1))) := ((Only.refl _ wr).setCell (p := ⟨lo + 1, a, none⟩) (Or.inl rfl) _).setCell (p := ⟨hb, a, none⟩) (Or.inr rfl) _
            have hbv : Value.int .u8 ((k : Int) + 1) = bv (UInt8.ofNat (k + 1)) := by unfold bv; rw [UInt8.toNat_ofNat']; congr 1; omega
            have P6 := Lib.hid (P5.out.keep o6 (fun q hq => by
              rcases hq with rfl | rfl
              · exact ⟨_, _, S5.out, by decide, by decide⟩
              · exact ⟨_, _, H5.out, by decide, by decide⟩))
            have J6 := Lib.hid (J5.out.apart o6 (fun q hq => by have := HLO.out; have := J5.out.st.hB; have := HBE.out; have := HLT.out; have := HB2.out; rcases hq with rfl | rfl <;> omega))
            have hs6 : ((wr.setCell ⟨lo + 1, a, none⟩ (.bool true)).setCell ⟨hb, a, none⟩ (.int .u8 ((k : Int) + 1))).heap[lo + 1]? = some (.cells (bools (sl.set a true)) 41 (0, 0)) := by
              refine ((Only.refl (· = hb) _).put a _).keeps ?_ (by have := HLO.out; omega)
              rw [heap_setCell_same wr (lo + 1) a _ _ (.bool true) S5.out, bools_set]
            have hh7 : ((wr.setCell ⟨lo + 1, a, none⟩ (.bool true)).setCell ⟨hb, a, none⟩ (.int .u8 ((k : Int) + 1))).heap[hb]? = some (.cells (bvs (hl2.set a (UInt8.ofNat (k + 1)))) 39 (0, 0)) := by
              rw [heap_setCell_same _ hb a _ _ _ HH6.out, hbv, bvs_set]
            have U6 := Lib.hid (U5.out.more ha60 HSV.out)
            have S6 := Lib.hid hs6
            have H6 := Lib.hid hh7
            have hl6 : lo ≤ ((wr.setCell ⟨lo + 1, a, none⟩ (.bool true)).setCell ⟨hb, a, none⟩ (.int .u8 ((k : Int) + 1))).heap.size := Nat.le_trans L5.out o6.size
            have L6 := Lib.hid hl6
            clear o6 hbv hs6 hh7 hl6 ch fh2 fs fh cs cx cy
            generalize (wr.setCell ⟨lo + 1, a, none⟩ (.bool true)).setCell ⟨hb, a, none⟩ (.int .u8 ((k : Int) + 1)) = w6 at *
            obtain ⟨gq, cq, hv⟩ := P6.out.shape
            subst hv
            obtain ⟨cb, hcb⟩ : ∃ c, c = UInt8.ofNat (k + 1) := ⟨_, rfl⟩
            have hcn : (k : Int) + 1 = (cb.toNat : Int) := by rw [hcb, UInt8.toNat_ofNat']; omega
            have HCN := Lib.hid hcn
            have HCB := Lib.hid hcb
            rw [← hcb] at U6 H6
            clear hcn hcb
            have hwn : IntKind.i64.wrap (199 + (a : Int)) = 199 + (a : Int) := IntWalk.i64_in _ (by omega)
            refine (full_eq w6 cb (UInt8.ofNat a) _ _ HCN.out (by rw [UInt8.toNat_ofNat']; omega)).mono ?_
            rintro e w7 ⟨rfl, rfl⟩
            go_wp2_with (at_builtin; refine wpList_append_own _ rfl (.tmp 74) (.tmp 84) 40 rfl lo 44 i0 (.agg #[.int .i64 0, .slice none 0 0]) 2 32 Try.underlying40 HI.out.1 HI.out.2.1 HI.out.2.2.1 HI.out.2.2.2 rfl (by decide) _ _ _ rfl ((P6.out.own.alloc _).alloc _) ⟨w6.heap.size + 1, 0, none⟩ 1 1 [.int .i64 (199 + (a : Int)), rowVal w6.heap.size] rfl rfl (two_cells _ _ _ _ _) (by simp [rowVal, Value.oneCell']) (by unfold maxLen; omega) (by omega) (by have := L6.out; simp; omega) ?_; intro v' w8 hown hgr hnil)
            have P8 := Lib.hid (P6.out.more hown hgr L6.out)
            have h68 := (((Only.refl (fun q => (Value.slice (some ⟨gq, 0, none⟩) G.length cq).ownBlock = some q) w6).alloc (.cells (bvs (fullBytes cb (UInt8.ofNat a))) 5)).alloc (.cells #[.int .i64 (199 + (a : Int)), rowVal w6.heap.size] 44)).grown hgr (fun q hq => Or.inl hq)
            have hT : ∀ q, (Value.slice (some ⟨gq, 0, none⟩) G.length cq).ownBlock = some q → q = gq ∧ lo ≤ q := fun q hq => ⟨by simpa [Value.ownBlock] using hq.symm, (P6.out.own.lt q hq).1⟩
            have hgty : ∃ cur, w6.heap[gq]? = some (.cells cur 44 (0, 0)) := by
              rcases P6.out.own.2 with ⟨e, _⟩ | ⟨g', cap, cur, e, _, hg, _⟩
              · cases e
              · cases e; exact ⟨cur, hg⟩
            have J8 := Lib.hid (J6.out.apart h68 (fun q hq => by have := HLO.out; have := (hT q hq).2; omega))
            have S8 := Lib.hid (h68.keeps S6.out (fun e => by
              obtain ⟨cur, hcur⟩ := hgty
              rw [← (hT _ e).1, S6.out] at hcur
              cases hcur))
            have H8 := Lib.hid (h68.keeps H6.out (fun e => by have := HLO.out; have := (hT _ e).2; omega))
            have L8 := Lib.hid (Nat.le_trans L6.out h68.size)
            clear hown hgr hnil h68 hT hgty
            go_wp2_with fail
            go_roundw
            case rel => exact ⟨q + 1, bl ++ [w6.heap.size], sl.set a true, _, _, by go_num, by omega, by omega, by simp; omega, J8.out, P8.out, S8.out, H8.out, by rw [← HCB.out]; exact U6.out, L8.out⟩
            case measure => simp [intOf]; omega
        · have hstop : (q = n1 ∧ ¬ q < n1) ∨ (q < n1 ∧ q = 40 ∧ ¬ q < 40) := by omega
          clear hgo
          rcases hstop with ⟨-, hstop⟩ | ⟨hstop1, -, hstop⟩
          · obtain ⟨gq, cq, hv⟩ := P5.out.shape
            subst hv
            have hgr := U5.out.group (at_ := 0) (len := 259) (by omega) (by decide) (by decide) (by decide)
            obtain ⟨-, hpa⟩ := P5.out.puts (T := Three p r jb) (fun i hi => hgr.full i hi) (fun i hi => by have := HLO.out; rcases hi with e | e | e <;> omega)
            have HPA := Lib.hid hpa
            have HGR := Lib.hid hgr
            have hsh := U5.out.shows hgr (by
              have : (UInt8.ofNat (k + 1)).toNat = k + 1 := by rw [UInt8.toNat_ofNat']; omega
              exact UInt8.lt_iff_toNat_lt.2 (by rw [this]; simp)) HE.out
            have HSH := Lib.hid hsh
            clear hpa hgr hsh
            obtain ⟨gn, hgn⟩ : ∃ gn, gn = G.length := ⟨_, rfl⟩
            have HGN := Lib.hid hgn
            rw [← hgn]
            clear hgn
            have hw30 : IntKind.i64.wrap ((k : Int) + 1) = (k : Int) + 1 := IntWalk.i64_in _ (by omega)
            go_wp2_with fail
            refine (commit_fit J5.out _ F.out (by decide) (by decide) (by decide) (by omega) (by omega) CL.out (some ⟨gq, 0, none⟩) G gn cq HGN.out HGR.out HPA.out).mono ?_
            rintro e w9 ⟨rfl, D9, j9, f9, cl9, o9⟩
            have J9 := Lib.hid j9
            have F9 := Lib.hid f9
            have CL9 := Lib.hid cl9
            have H9 := Lib.hid (o9.keeps H5.out (fun e => by have := HLT.out; have := HBE.out; rcases e with e | e | e <;> omega))
            clear j9 f9 cl9 o9
            go_wp2_with fail
            refine (groups_calls w9 p jb 0 _ J9.out.cells).mono ?_
            rintro e w10 ⟨rfl, rfl⟩
            go_wp2_with fail
            go_roundw
            case rel => exact ⟨k + 1, D9, hl2, applied G E, by go_num, by omega, by omega, J9.out, ⟨F9.out.len, F9.out.off, F9.out.fuse, F9.out.under.mono (by omega)⟩, CL9.out, U5.out.hlen, HSH.out, H9.out⟩
            case measure => simp [intOf]; omega
          · obtain ⟨gq, cq, hv⟩ := P5.out.shape
            subst hv
            have hgr := U5.out.group (at_ := 0) (len := 259) (by omega) (by decide) (by decide) (by decide)
            obtain ⟨-, hpa⟩ := P5.out.puts (T := Three p r jb) (fun i hi => hgr.full i hi) (fun i hi => by have := HLO.out; rcases hi with e | e | e <;> omega)
            have HPA := Lib.hid hpa
            have HGR := Lib.hid hgr
            have hsh := U5.out.shows hgr (by
              have : (UInt8.ofNat (k + 1)).toNat = k + 1 := by rw [UInt8.toNat_ofNat']; omega
              exact UInt8.lt_iff_toNat_lt.2 (by rw [this]; simp)) HE.out
            have HSH := Lib.hid hsh
            clear hpa hgr hsh
            obtain ⟨gn, hgn⟩ : ∃ gn, gn = G.length := ⟨_, rfl⟩
            have HGN := Lib.hid hgn
            rw [← hgn]
            clear hgn
            have hw30 : IntKind.i64.wrap ((k : Int) + 1) = (k : Int) + 1 := IntWalk.i64_in _ (by omega)
            go_wp2_with fail
            refine (commit_fit J5.out _ F.out (by decide) (by decide) (by decide) (by omega) (by omega) CL.out (some ⟨gq, 0, none⟩) G gn cq HGN.out HGR.out HPA.out).mono ?_
            rintro e w9 ⟨rfl, D9, j9, f9, cl9, o9⟩
            have J9 := Lib.hid j9
            have F9 := Lib.hid f9
            have CL9 := Lib.hid cl9
            have H9 := Lib.hid (o9.keeps H5.out (fun e => by have := HLT.out; have := HBE.out; rcases e with e | e | e <;> omega))
            clear j9 f9 cl9 o9
            go_wp2_with fail
            refine (groups_calls w9 p jb 0 _ J9.out.cells).mono ?_
            rintro e w10 ⟨rfl, rfl⟩
            go_wp2_with fail
            go_roundw
            case rel => exact ⟨k + 1, D9, hl2, applied G E, by go_num, by omega, by omega, J9.out, ⟨F9.out.len, F9.out.off, F9.out.fuse, F9.out.under.mono (by omega)⟩, CL9.out, U5.out.hlen, HSH.out, H9.out⟩
            case measure => simp [intOf]; omega
    · have hstop : (k = len0 ∧ ¬ k < len0) ∨ (k < len0 ∧ k = 30 ∧ ¬ k < 30) := by omega
      clear hgo
      rcases hstop with ⟨-, hstop⟩ | ⟨hstop1, -, hstop⟩
      · have hwx : True := trivial
        clear hwx
        go_wp2_with fail
        go_loopw [13] (fun i w5 => ∃ b : Nat, i = .int .i64 b ∧ b ≤ 60 ∧ JSt w.heap.size w w5 p r D jb 0 (k : Nat) ∧ w5.heap[hb]? = some (.cells (bvs hl) 39 (0, 0))) (fun i _ => 60 - (intOf i).toNat)
        case atStart => exact ⟨0, rfl, by omega, J.out, HROW.out⟩
        case round =>
          obtain ⟨b, rfl, hb60, j5, h5⟩ := hrel
          have J5 := Lib.hid j5
          have H5 := Lib.hid h5
          clear j5 h5
          by_cases hlt : b < 60
          · have hget : D.get (199 + (b : Nat)) = wants hl b := (CL.out.out _ (by unfold inJ; omega)).trans (HE.out b hlt)
            have hrd := read_st J5.out.st (199 + (b : Nat)) (code_on F.out.off (by omega) (by rw [F.out.len]; omega))
            rw [hget] at hrd
            have HRD := Lib.hid hrd
            have hmk : ∀ w, (Instr.makeSlice 32 (.int .i64 64) (.int .i64 64)).run Try.prog w = .ok (.slice (some ⟨w.heap.size, 0, none⟩) 64 64) (w.alloc (.cells (bvs zeros64) 5)) := fun w => by kernel_rfl
            have hwb : IntKind.i64.wrap (199 + (b : Int)) = 199 + (b : Int) := IntWalk.i64_in _ (by omega)
            clear hget hrd
            go_wp2_with fail
            refine HRD.out.mono ?_
            rintro e w6 ⟨b6, rfl, hrow6, hlen6, -, o6, -⟩
            have J6 := Lib.hid (J5.out.same o6)
            have hh6 := o6.keeps H5.out (fun e => e)
            have H6 := Lib.hid hh6
            have o7 := (Only.refl (fun _ => False) w6).alloc (.cells (bvs zeros64) 5)
            have J7 := Lib.hid (J6.out.same o7)
            have hh7 := o7.keeps hh6 (fun e => e)
            have H7 := Lib.hid hh7
            have ch := bvs_cell hh7 (j := b) (by rw [HLEN.out]; exact hlt)
            obtain ⟨c, hc⟩ : ∃ c, c = hl.getD b 0 := ⟨_, rfl⟩
            rw [← hc] at ch
            have hwant : wants hl b = if c > 0 then fullBytes c (UInt8.ofNat b) else zeros64 := by unfold wants; rw [← hc]
            rw [hwant] at hrow6
            have r7 := hrow6.grow o7 (by split; rw [fullBytes_length]; decide; simp [zeros64])
            have R7 := Lib.hid r7
            have Z7 := Lib.hid (RowAt.of_cells (heap_alloc_new w6 (.cells (bvs zeros64) 5)))
            have hcb := c.toNat_lt
            unfold bv at ch
            clear hrow6 hlen6 o6 hh6 hh7 o7 hwant r7 hc
            by_cases hpos : c > 0
            · have hp2 : (0 : Int) < ((c.toNat : Nat) : Int) := by have := UInt8.lt_iff_toNat_lt.1 hpos; simp at this; omega
              have hwb8 : IntKind.u8.wrap (b : Int) = b := IntWalk.u8_in _ (by omega)
              rw [if_pos hpos] at R7
              have HPOS := Lib.hid hpos
              clear hpos
              go_wp2_with fail
              refine (full_eq _ c (UInt8.ofNat b) _ _ rfl (by rw [UInt8.toNat_ofNat']; omega)).mono ?_
              rintro e w8 ⟨rfl, rfl⟩
              have o8 := (Only.refl (fun _ => False) (w6.alloc (.cells (bvs zeros64) 5))).alloc (.cells (bvs (fullBytes c (UInt8.ofNat b))) 5)
              have k1 := conv_any _ (fullBytes_length c (UInt8.ofNat b)) b6 _ (R7.out.grow o8 (by rw [fullBytes_length]; decide))
              have k2 := conv_any _ (fullBytes_length c (UInt8.ofNat b)) _ _ (RowAt.of_cells (heap_alloc_new (w6.alloc (.cells (bvs zeros64) 5)) (.cells (bvs (fullBytes c (UInt8.ofNat b))) 5)))
              rw [heap_alloc_size] at k2
              have J8 := Lib.hid (J7.out.same o8)
              have H8 := Lib.hid (o8.keeps H7.out (fun e => e))
              clear o8
              go_wp2_with fail
              go_roundw
              case rel => exact ⟨b + 1, by go_num, by omega, J8.out, H8.out⟩
              case measure => simp [intOf]; omega
            · have hp2 : ((c.toNat : Nat) : Int) = 0 := by
                have : ¬ 0 < c.toNat := fun h => hpos (UInt8.lt_iff_toNat_lt.2 (by simpa using h))
                omega
              rw [if_neg hpos] at R7
              have k1 := conv_any zeros64 (by simp [zeros64]) b6 _ R7.out
              have k2 := conv_any zeros64 (by simp [zeros64]) _ _ Z7.out
              clear hpos
              go_wp2_with fail
              go_roundw
              case rel => exact ⟨b + 1, by go_num, by omega, J7.out, H7.out⟩
              case measure => simp [intOf]; omega
          · have hnot : ¬ b < 60 := hlt
            go_wp2_with fail
            go_ret
            exact ⟨rfl, J5.out.st.below⟩
      · have hwx : True := trivial
        clear hwx
        go_wp2_with fail
        go_loopw [13] (fun i w5 => ∃ b : Nat, i = .int .i64 b ∧ b ≤ 60 ∧ JSt w.heap.size w w5 p r D jb 0 (k : Nat) ∧ w5.heap[hb]? = some (.cells (bvs hl) 39 (0, 0))) (fun i _ => 60 - (intOf i).toNat)
        case atStart => exact ⟨0, rfl, by omega, J.out, HROW.out⟩
        case round =>
          obtain ⟨b, rfl, hb60, j5, h5⟩ := hrel
          have J5 := Lib.hid j5
          have H5 := Lib.hid h5
          clear j5 h5
          by_cases hlt : b < 60
          · have hget : D.get (199 + (b : Nat)) = wants hl b := (CL.out.out _ (by unfold inJ; omega)).trans (HE.out b hlt)
            have hrd := read_st J5.out.st (199 + (b : Nat)) (code_on F.out.off (by omega) (by rw [F.out.len]; omega))
            rw [hget] at hrd
            have HRD := Lib.hid hrd
            have hmk : ∀ w, (Instr.makeSlice 32 (.int .i64 64) (.int .i64 64)).run Try.prog w = .ok (.slice (some ⟨w.heap.size, 0, none⟩) 64 64) (w.alloc (.cells (bvs zeros64) 5)) := fun w => by kernel_rfl
            have hwb : IntKind.i64.wrap (199 + (b : Int)) = 199 + (b : Int) := IntWalk.i64_in _ (by omega)
            clear hget hrd
            go_wp2_with fail
            refine HRD.out.mono ?_
            rintro e w6 ⟨b6, rfl, hrow6, hlen6, -, o6, -⟩
            have J6 := Lib.hid (J5.out.same o6)
            have hh6 := o6.keeps H5.out (fun e => e)
            have H6 := Lib.hid hh6
            have o7 := (Only.refl (fun _ => False) w6).alloc (.cells (bvs zeros64) 5)
            have J7 := Lib.hid (J6.out.same o7)
            have hh7 := o7.keeps hh6 (fun e => e)
            have H7 := Lib.hid hh7
            have ch := bvs_cell hh7 (j := b) (by rw [HLEN.out]; exact hlt)
            obtain ⟨c, hc⟩ : ∃ c, c = hl.getD b 0 := ⟨_, rfl⟩
            rw [← hc] at ch
            have hwant : wants hl b = if c > 0 then fullBytes c (UInt8.ofNat b) else zeros64 := by unfold wants; rw [← hc]
            rw [hwant] at hrow6
            have r7 := hrow6.grow o7 (by split; rw [fullBytes_length]; decide; simp [zeros64])
            have R7 := Lib.hid r7
            have Z7 := Lib.hid (RowAt.of_cells (heap_alloc_new w6 (.cells (bvs zeros64) 5)))
            have hcb := c.toNat_lt
            unfold bv at ch
            clear hrow6 hlen6 o6 hh6 hh7 o7 hwant r7 hc
            by_cases hpos : c > 0
            · have hp2 : (0 : Int) < ((c.toNat : Nat) : Int) := by have := UInt8.lt_iff_toNat_lt.1 hpos; simp at this; omega
              have hwb8 : IntKind.u8.wrap (b : Int) = b := IntWalk.u8_in _ (by omega)
              rw [if_pos hpos] at R7
              have HPOS := Lib.hid hpos
              clear hpos
              go_wp2_with fail
              refine (full_eq _ c (UInt8.ofNat b) _ _ rfl (by rw [UInt8.toNat_ofNat']; omega)).mono ?_
              rintro e w8 ⟨rfl, rfl⟩
              have o8 := (Only.refl (fun _ => False) (w6.alloc (.cells (bvs zeros64) 5))).alloc (.cells (bvs (fullBytes c (UInt8.ofNat b))) 5)
              have k1 := conv_any _ (fullBytes_length c (UInt8.ofNat b)) b6 _ (R7.out.grow o8 (by rw [fullBytes_length]; decide))
              have k2 := conv_any _ (fullBytes_length c (UInt8.ofNat b)) _ _ (RowAt.of_cells (heap_alloc_new (w6.alloc (.cells (bvs zeros64) 5)) (.cells (bvs (fullBytes c (UInt8.ofNat b))) 5)))
              rw [heap_alloc_size] at k2
              have J8 := Lib.hid (J7.out.same o8)
              have H8 := Lib.hid (o8.keeps H7.out (fun e => e))
              clear o8
              go_wp2_with fail
              go_roundw
              case rel => exact ⟨b + 1, by go_num, by omega, J8.out, H8.out⟩
              case measure => simp [intOf]; omega
            · have hp2 : ((c.toNat : Nat) : Int) = 0 := by
                have : ¬ 0 < c.toNat := fun h => hpos (UInt8.lt_iff_toNat_lt.2 (by simpa using h))
                omega
              rw [if_neg hpos] at R7
              have k1 := conv_any zeros64 (by simp [zeros64]) b6 _ R7.out
              have k2 := conv_any zeros64 (by simp [zeros64]) _ _ Z7.out
              clear hpos
              go_wp2_with fail
              go_roundw
              case rel => exact ⟨b + 1, by go_num, by omega, J7.out, H7.out⟩
              case measure => simp [intOf]; omega
          · have hnot : ¬ b < 60 := hlt
            go_wp2_with fail
            go_ret
            exact ⟨rfl, J5.out.st.below⟩

/-! ### THE ROW's STEP -/
set_option maxRecDepth 100000 in
theorem lifted (os : Os) (started : os.Started) (H : Type) (enc : TypeId × Value → H) :
    ReturnsInHanded {} Try.checked os 4 .any (Rows.journalOrderSpec.pre6 enc Try.prog Try.f4 Rows.journalOrderRow.domain false) (Rows.journalOrderSpec.post enc Try.prog Try.f4 false true false false) := by
  refine returnsInHanded_of_change (C := Try.checked) own started (by kernel_rfl) Try.func4
    (ChangeSpec.witness6 (enc := enc) (C := Try.checked) false ⟨#[], #[.slice none 0 0], []⟩ 8 (by kernel_rfl) (by kernel_rfl) (by kernel_rfl) (by kernel_rfl)) ?_
  intro W base args ds gs before hval0 hW hcnd _
  have hval : ∀ (j : Nat) t v, Try.f4.params[j]? = some t → args[j]? = some v → Value.okWide Try.prog W .any base t v := hval0
  have hW' := hW
  obtain ⟨p, q, hA0, hV, rfl, hfz, hnd⟩ := hW
  have hA : DataW.TrodAll enc Try.prog W 0 (fun _ => true) true Try.f4.params.toList args.toList ds p := hA0
  rw [Try.params4] at hA hval
  obtain ⟨v0, vs0, d0, ds0, p0, q0, hargs, rfl, rfl, h0, r0⟩ := trodAll_cons hA
  obtain ⟨rfl, rfl, rfl⟩ := trodAll_nil r0
  obtain rfl : args = #[v0] := by cases args; simp_all
  obtain ⟨rfl, rfl⟩ := trodVars_none hV
  obtain ⟨a0, len0, cap0, rfl⟩ := okWide_slice Try.underlying36 (hval 0 36 v0 rfl rfl)
  have k0 := h0
  have lt0 : ∀ x ∈ p0, x.block < W.heap.size := by obtain ⟨m, hm⟩ := k0; exact DataW.trod_lt m _ _ _ hm
  have w0 : RowsArg W a0 len0 := by
    obtain ⟨fuel, hf⟩ := h0
    exact rows_open hf
  clear hA0 hval0
  refine (walk a0 len0 cap0 W w0).mono fun e W' ⟨he, bel⟩ => ?_
  subst he
  exact ⟨_, rfl, _, _, _, [], _, [], hW', trodAll_mk1 (shut_bool Try.underlying4 _), (trodAll_cons_mk (Below.trod laidOut (by kernel_rfl) (of_decide_eq_true (by kernel_rfl)) k0 bel lt0) trodAll_mk0), rfl, bel.frame _, fun h => by cases h⟩

theorem over : Rows.journalOrderRow.holds Try.pinned (OpenSpec.ofChange Rows.journalOrderSpec) :=
  OpenClaim.holds_of_wide 4 Try.f4 rfl rfl rfl rfl rfl rfl rfl ⟨rfl, rfl, rfl, rfl, rfl⟩ rfl rfl rfl rfl rfl (by kernel_rfl) Try.func4 (by kernel_rfl)
    (of_decide_eq_true (by kernel_rfl)) (by unfold Func.isWrapper; first | (rw [if_pos (by decide +kernel)]; kernel_rfl) | (rw [if_neg (by decide +kernel)]; exact ⟨rfl, rfl⟩))
    (fun os started H enc _ => lifted os started H enc)

theorem proved : Rows.JournalOrderSaid := over
#print axioms proved
end Go.Proofs.Ytpmlmjbhgonegaa.journalOrder
