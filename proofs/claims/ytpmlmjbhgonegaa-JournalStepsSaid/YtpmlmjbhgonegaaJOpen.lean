/- Contract of the journal's Open. -/
import Derived.Test.YtpmlmjbhgonegaaJFinish
namespace Go.Proofs.Ytpmlmjbhgonegaa
open Go.RowKit

/-- How the disk is behind Open, and what it answers, where the numbers of the head's block are g and hand. -/
def jOpen (D : DK) (at_ : Int) (g hand : Nat) : DK × Int :=
  if roomAt D at_ = false then (D, 1) else
  if D.code at_ ≠ 0 then (D, D.code at_) else
  if D.get at_ ≠ headBytes g hand ∨ 192 < hand then (D, 4) else
  if hand = 0 then (D, 0) else jFinish D at_ g hand

/-- What Open gives. -/
def OpenRes (B : Nat) (w0 w : World) (p r : Nat) (D : DK) (at_ g c : Int) (lo : Nat) (v : Value) : Prop :=
  (c = 0 → ∃ jb, v = .pointer (some ⟨jb, 0, none⟩) ∧ lo ≤ jb ∧ JSt B w0 w p r D jb at_ g) ∧ (c ≠ 0 → v = .pointer none ∧ DSt B w0 w p r D)

/-- The number's first k bytes. -/
def upTo (g k : Nat) : Nat := g / 2 ^ (64 - 8 * k)
theorem upTo_step (g k : Nat) (hk : k < 8) : upTo g (k + 1) = upTo g k * 256 + (be8 g k).toNat := by
  unfold upTo be8
  rw [UInt8.toNat_ofNat', show 64 - 8 * (k + 1) = 56 - 8 * k by omega, show 64 - 8 * k = (56 - 8 * k) + 8 by omega, Nat.pow_add, ← Nat.div_div_eq_div_mul]
  omega
theorem upTo_le (g k : Nat) : upTo g k ≤ g := Nat.div_le_self _ _
theorem upTo_all (g : Nat) : upTo g 8 = g := by simp [upTo]
theorem upTo_none (g : Nat) (hg : g < 9223372036854775808) : upTo g 0 = 0 := by
  unfold upTo
  exact Nat.div_eq_of_lt (by simpa using Nat.lt_trans hg (by decide))

theorem add_zero_block (b i : Nat) : (⟨b, 0, none⟩ : Addr).add i = ⟨b, i, none⟩ := by
  unfold Addr.add
  split <;> simp_all

theorem JSt.count {B : Nat} {w0 w : World} {p r : Nat} {D : DK} {jb : Nat} {at_ g : Int} (h : JSt B w0 w p r D jb at_ g) (g' : Int) : JSt B w0 (w.setCell ⟨jb, 2, none⟩ (.int .i64 g')) p r D jb at_ g' :=
  ⟨h.st.put jb 2 _ h.hj h.np h.nr, by rw [heap_setCell_same w jb 2 _ _ (.int .i64 g') h.cells]; rfl, h.hj, h.np, h.nr⟩
theorem Only.then_at {a b : World} (h : Only (fun _ => False) a b) {m : Nat} (hm : a.heap.size ≤ m) (o : Nat) (v : Value) : Only (fun _ => False) a (b.setCell ⟨m, o, none⟩ v) := h.setCell_new (p := ⟨m, o, none⟩) hm v

set_option maxRecDepth 100000 in
set_option maxHeartbeats 2000000 in
theorem open_calls {B : Nat} {w0 w : World} {p r : Nat} {D : DK} (h : DSt B w0 w p r D) (at_ : Int) (h1 : 1 ≤ D.len) (h2 : D.len ≤ 4096) (g hand : Nat) (hg : g < 9223372036854775808) (hnum : ∀ k, k < 8 → (D.get at_)[8 + k]? = some (be8 g k)) (hhand : (D.get at_)[16]? = some (UInt8.ofNat hand)) (hh : hand < 256) (m : Int) (hu : D.under m) (hm : m < 8000000000000000000) :
    Calls Try.prog 11 #[.pointer (some ⟨p, 0, none⟩), .int .i64 at_] w fun e w' => ∃ v, e = .returned (.tuple #[v, .int .i64 (jOpen D at_ g hand).2]) ∧ OpenRes B w0 w' p r (jOpen D at_ g hand).1 at_ g (jOpen D at_ g hand).2 w.heap.size v ∧ Only (Two p r) w w' := by
  have ht := there_calls w p r D at_ h.disk h1 h2
  have HT := Lib.hid ht
  clear ht
  by_cases hroom : roomAt D at_ = true
  · have H := HT.out
    rw [hroom] at H
    have HX := Lib.hid H
    clear H HT
    have hr12 : 0 ≤ at_ ∧ at_ ≤ D.len - 199 := by simpa [roomAt] using hroom
    have HNUM := Lib.hid hnum
    have HHAND := Lib.hid hhand
    have HU := Lib.hid hu
    have HS := Lib.hid h
    clear h hnum hhand hu
    by_cases hc : D.code at_ = 0
    · have HC := Lib.hid hc
      have HROOM := Lib.hid hroom
      clear hc hroom
      go_enter Try.func11, Try.ntmps11
      go_wp2_with fail
      refine HX.out.mono ?_
      rintro e w' ⟨rfl, rfl⟩
      go_wp2_with fail
      have hlt := lt_of_heap HS.out.disk.cells
      have hlt2 : r < w.heap.size := by obtain ⟨_, _, hm, _⟩ := HS.out.disk.map; exact lt_of_heap hm
      have J0 := Lib.hid (⟨HS.out.same ((Only.refl _ w).alloc _), heap_alloc_new _ _, HS.out.hB, by omega, by omega⟩ : JSt B w0 (w.alloc (.cells #[.pointer (some ⟨p, 0, none⟩), .int .i64 at_, .int .i64 0] 70)) p r D w.heap.size at_ 0)
      have O0 := Lib.hid ((Only.refl (fun _ => False) w).alloc (.cells #[.pointer (some ⟨p, 0, none⟩), .int .i64 at_, .int .i64 0] 70))
      refine (read_st J0.out.st at_ HC.out).mono ?_
      rintro e w2 ⟨b, rfl, hrow, hlen, -, o2, hbn⟩
      have J2 := Lib.hid (J0.out.same o2)
      have O2 := Lib.hid (O0.out.trans o2)
      have hbj : b ≠ w.heap.size := by
        have := (O0.out).size
        simp at hbn
        omega
      obtain ⟨jb, hjb⟩ : ∃ jb, jb = w.heap.size := ⟨_, rfl⟩
      rw [← hjb] at J2 hbj ⊢
      have HJB := Lib.hid hjb
      have ROW := Lib.hid hrow
      have HBJ := Lib.hid hbj
      have HL := Lib.hid hlen
      clear hlt hlt2 J0 O0 hrow hlen o2 hbn hjb hbj
      generalize hll : D.get at_ = l at *
      have HLL := Lib.hid hll
      clear hll
      go_wp2_with fail
      go_loopw [30] (fun i wr => ∃ k : Nat, i = .int .i64 k ∧ k ≤ 8 ∧ JSt B w0 wr p r D jb at_ (upTo g k : Nat) ∧ Only (fun _ => False) w wr ∧ RowAt wr ⟨b, 0, none⟩ l) (fun i _ => 8 - (intOf i).toNat)
      case atStart => exact ⟨0, rfl, by omega, by rw [upTo_none g hg]; exact J2.out, O2.out, ROW.out⟩
      case round =>
        obtain ⟨k, rfl, hk, hj, ho, hrow⟩ := hrel
        have J := Lib.hid hj
        have O := Lib.hid ho
        have RW := Lib.hid hrow
        clear hj ho hrow
        by_cases hlt : k < 8
        · have hb := HNUM.out k hlt
          have hup := upTo_step g k hlt
          have hule := upTo_le g (k + 1)
          have hlt7 : b < wr.drew.heap.size := RW.out.lt (by rw [HL.out]; decide)
          obtain ⟨y, hy⟩ : ∃ y, y = (be8 g k).toNat := ⟨_, rfl⟩
          have hy2 : y < 256 := by rw [hy]; exact UInt8.toNat_lt _
          have hbv : bv (be8 g k) = .int .u8 (y : Nat) := by unfold bv; rw [hy]
          rw [← hy] at hup
          obtain ⟨G, hG⟩ : ∃ G, G = upTo g k := ⟨_, rfl⟩
          rw [← hG] at J hup
          have hw3 : IntKind.i64.wrap ((G : Int) * 256) = (G : Int) * 256 := IntWalk.i64_in _ (by omega)
          have hw8 : IntKind.i64.wrap (8 + (k : Int)) = ((8 + k : Nat) : Int) := by rw [IntWalk.i64_in _ (by omega)]; omega
          have hw5 : IntKind.i64.wrap (y : Int) = y := IntWalk.i64_in _ (by omega)
          have hor : bits .or .i64 ((G : Int) * 256) (y : Int) = ((G * 256 + y : Nat) : Int) := by
            have := bits_or_byte G y hy2
            rw [hw3] at this
            rw [this, IntWalk.i64_in _ (by omega)]
            omega
          have HUP := Lib.hid hup
          have HB := Lib.hid hb
          have HBV := Lib.hid hbv
          have HLT7 := Lib.hid hlt7
          have HG := Lib.hid hG
          clear hup hule hb hbv hlt7 hG hy
          go_wp2_with fail
          refine wp_region_growT 16 (Only (fun _ => False)) (fun | _ => none) (by kernel_rfl) (by kernel_rfl) (by kernel_rfl) (by kernel_rfl) (by kernel_rfl) (Only.refl _) (fun _ _ _ => Only.trans) ?_ ?_
          · intro i V hV
            cases hV
          simp only [List.zipIdx_cons, List.zipIdx_nil, Nat.zero_add, Nat.reduceAdd, List.take_succ_cons, List.take_zero, List.drop_succ_cons, List.drop_zero]
          iterate 4 (refine grow_det ?_ rfl (fun w' => ?_) ?_; rotate_left 1; (unfold Runs; go_simp; rfl); try simp only [Act.put, List.setIfInBounds_toArray, List.set_cons_zero, List.set_cons_succ])
          refine grow_read (.int .i64 (G : Nat)) rfl (fun w' hr hf => ?_) ?_
          · have h1 := cellOf (J.out.drew.same hr).cells 2
            simp [jCells] at h1
            unfold Runs
            go_simp
          simp only [Act.put, List.setIfInBounds_toArray, List.set_cons_zero, List.set_cons_succ]
          iterate 5 (refine grow_det ?_ rfl (fun w' => ?_) ?_; rotate_left 1; (unfold Runs; go_simp; rfl); try simp only [Act.put, List.setIfInBounds_toArray, List.set_cons_zero, List.set_cons_succ])
          refine grow_det (.pointer (some ⟨b, 8 + k, none⟩)) rfl (fun w' => ?_) ?_
          · unfold Runs
            go_simp
            rw [if_pos (by omega), show ((8 : Int) + (k : Int)).toNat = 8 + k from by omega]
          simp only [Act.put, List.setIfInBounds_toArray, List.set_cons_zero, List.set_cons_succ]
          refine grow_read (.int .u8 (y : Nat)) rfl (fun w' hr hf => ?_) ?_
          · have hc := (RW.out.drew.only hr (fun e => e) HLT7.out) (8 + k) (be8 g k) HB.out
            rw [add_zero_block, HBV.out] at hc
            unfold Runs
            go_simp
          simp only [Act.put, List.setIfInBounds_toArray, List.set_cons_zero, List.set_cons_succ]
          iterate 4 (refine grow_det ?_ rfl (fun w' => ?_) ?_; rotate_left 1; (unfold Runs; go_simp; rfl); try simp only [Act.put, List.setIfInBounds_toArray, List.set_cons_zero, List.set_cons_succ])
          refine grow_end (fun w5 hr hf => ?_)
          clear hf
          have J5 := Lib.hid (J.out.drew.same hr)
          have O5 := Lib.hid (O.out.drew.trans hr)
          have R5 := Lib.hid (RW.out.drew.only hr (fun e => e) HLT7.out)
          clear hr
          have c2 := cellOf J5.out.cells 2
          have f2 := freeOf J5.out.cells 2
          simp [jCells] at c2
          go_wp2_with fail
          go_roundw
          case rel =>
            refine ⟨k + 1, by go_num, by omega, by rw [show ((upTo g (k + 1) : Nat) : Int) = (G : Int) * 256 + y from by rw [HUP.out]; omega]; exact J5.out.count _, O5.out.then_at (by have := HJB.out; omega) _ _, ?_⟩
            exact R5.out.only ((Only.refl (· = jb) w5).put 2 _) HBJ.out (by have := R5.out.lt (by rw [HL.out]; decide); exact this)
          case measure => simp [intOf]; omega
        · have hk8 : k = 8 := by omega
          subst hk8
          rw [upTo_all] at J
          have hcell := RW.out 16 _ HHAND.out
          rw [add_zero_block] at hcell
          have hbv : bv (UInt8.ofNat hand) = .int .u8 (hand : Nat) := by unfold bv; rw [UInt8.toNat_ofNat']; congr 1; omega
          rw [hbv] at hcell
          have hw9 : IntKind.i64.wrap (hand : Int) = hand := IntWalk.i64_in _ (by omega)
          clear hbv
          go_wp2_with fail
          by_cases hhd : l = headBytes g hand
          · have HEQ := Lib.hid hhd
            by_cases hb9 : 192 < hand
            · have hbig : (192 : Int) < (hand : Int) := by omega
              have hj : jOpen D at_ g hand = (D, 4) := by
                unfold jOpen
                rw [if_neg (by rw [HROOM.out]; simp), if_neg (by rw [HC.out]; simp), HLL.out, if_pos (Or.inr hb9)]
              have HJ := Lib.hid hj
              clear hj hcell hb9 hhd
              refine wp_region_grow (Only (fun _ => False)) (fun | 7 => some (BlockRes (headBytes g hand)) | _ => none) (by kernel_rfl) (by kernel_rfl) (Only.refl _) (fun _ _ _ => Only.trans) ?_ ?_
              · intro i V hV v w1 w2 hr hv
                split at hV
                · cases hV
                  exact hv.grow (by rw [headBytes_length]; decide) hr
                · cases hV
              simp only [List.zipIdx_cons, List.zipIdx_nil, Nat.zero_add, Nat.reduceAdd]
              iterate 1 (refine grow_det ?_ rfl (fun w' => ?_) ?_; rotate_left 1; (unfold Runs; go_simp; rfl); try simp only [Act.put, List.setIfInBounds_toArray, List.set_cons_zero, List.set_cons_succ])
              refine grow_read (.string (strOf l)) rfl (fun w' hr hf => ?_) ?_
              · have h1 := conv_any l HL.out b w' (RW.out.drew.grow hr (by rw [HL.out]; decide))
                unfold Runs
                go_simp
              simp only [Act.put, List.setIfInBounds_toArray, List.set_cons_zero, List.set_cons_succ]
              iterate 3 (refine grow_det ?_ rfl (fun w' => ?_) ?_; rotate_left 1; (unfold Runs; go_simp; rfl); try simp only [Act.put, List.setIfInBounds_toArray, List.set_cons_zero, List.set_cons_succ])
              refine grow_read (.int .i64 (g : Nat)) rfl (fun w' hr hf => ?_) ?_
              · have h1 := cellOf (J.out.drew.same hr).cells 2
                simp [jCells] at h1
                unfold Runs
                go_simp
              simp only [Act.put, List.setIfInBounds_toArray, List.set_cons_zero, List.set_cons_succ]
              iterate 1 (refine grow_det ?_ rfl (fun w' => ?_) ?_; rotate_left 1; (unfold Runs; go_simp; rfl); try simp only [Act.put, List.setIfInBounds_toArray, List.set_cons_zero, List.set_cons_succ])
              refine grow_pred _ rfl (fun w' hr hf => ?_) (fun v => ?_)
              · have h1 := J.out.drew.same hr
                unfold Gives gives
                go_simp
                refine (head_st h1.st g hand _ _ rfl rfl hg hh).mono ?_
                rintro e w14 ⟨b2, rfl, hb2, -, o14⟩
                exact ⟨_, rfl, o14, b2, rfl, hb2⟩
              simp only [Act.put, List.setIfInBounds_toArray, List.set_cons_zero, List.set_cons_succ]
              refine grow_read (.string (strOf (headBytes g hand))) rfl (fun w' hr hf => ?_) ?_
              · have h9 := hf 7 (by kernel_rfl)
                rw [upd_self] at h9
                obtain ⟨b2, rfl, hb2⟩ := h9
                have h1 := conv_any (headBytes g hand) (headBytes_length g hand) b2 w' hb2
                unfold Runs
                go_simp
              simp only [Act.put, List.setIfInBounds_toArray, List.set_cons_zero, List.set_cons_succ]
              refine grow_det (.bool false) rfl (fun w' => ?_) ?_
              · unfold Runs
                go_simp
                all_goals (first | rfl | (exact HEQ.out))
              simp only [Act.put, List.setIfInBounds_toArray, List.set_cons_zero, List.set_cons_succ]
              iterate 1 (refine grow_det ?_ rfl (fun w' => ?_) ?_; rotate_left 1; (unfold Runs; go_simp; rfl); try simp only [Act.put, List.setIfInBounds_toArray, List.set_cons_zero, List.set_cons_succ])
              iterate 1 (refine grow_det ?_ rfl (fun w' => ?_) ?_; rotate_left 1; (unfold Runs; go_simp; rfl); try simp only [Act.put, List.setIfInBounds_toArray, List.set_cons_zero, List.set_cons_succ])
              refine grow_det (.bool true) rfl (fun w' => ?_) ?_
              · unfold Runs
                go_simp
                all_goals (first | rfl | (simp [hbig]))
              simp only [Act.put, List.setIfInBounds_toArray, List.set_cons_zero, List.set_cons_succ]
              iterate 2 (refine grow_det ?_ rfl (fun w' => ?_) ?_; rotate_left 1; (unfold Runs; go_simp; rfl); try simp only [Act.put, List.setIfInBounds_toArray, List.set_cons_zero, List.set_cons_succ])
              iterate 6 (refine grow_det ?_ rfl (fun w' => ?_) ?_; rotate_left 1; (unfold Runs; go_simp; rfl); try simp only [Act.put, List.setIfInBounds_toArray, List.set_cons_zero, List.set_cons_succ])
              refine grow_end (fun w5 hr hf => ?_)
              have h9 := hf 7
              rw [upd_self] at h9
              obtain ⟨b2, rfl, hb2⟩ := h9
              clear hf hb2
              have J5 := Lib.hid (J.out.drew.same hr)
              have O5 := Lib.hid (O.out.drew.trans hr)
              clear hr
              go_wp2_with fail
              go_ret2
              exact ⟨_, by rw [HJ.out]; rfl, ⟨fun e => by rw [HJ.out] at e; simp at e, fun _ => ⟨rfl, by rw [HJ.out]; exact J5.out.st⟩⟩, O5.out.two p r⟩
            · have hbig : ¬ (192 : Int) < (hand : Int) := by omega
              have hj : jOpen D at_ g hand = if hand = 0 then (D, 0) else jFinish D at_ g hand := by
                unfold jOpen
                rw [if_neg (by rw [HROOM.out]; simp), if_neg (by rw [HC.out]; simp), HLL.out, if_neg (by simp [← hhd]; omega)]
              have HJ := Lib.hid hj
              clear hj hcell hhd
              refine wp_region_grow (Only (fun _ => False)) (fun | 7 => some (BlockRes (headBytes g hand)) | _ => none) (by kernel_rfl) (by kernel_rfl) (Only.refl _) (fun _ _ _ => Only.trans) ?_ ?_
              · intro i V hV v w1 w2 hr hv
                split at hV
                · cases hV
                  exact hv.grow (by rw [headBytes_length]; decide) hr
                · cases hV
              simp only [List.zipIdx_cons, List.zipIdx_nil, Nat.zero_add, Nat.reduceAdd]
              iterate 1 (refine grow_det ?_ rfl (fun w' => ?_) ?_; rotate_left 1; (unfold Runs; go_simp; rfl); try simp only [Act.put, List.setIfInBounds_toArray, List.set_cons_zero, List.set_cons_succ])
              refine grow_read (.string (strOf l)) rfl (fun w' hr hf => ?_) ?_
              · have h1 := conv_any l HL.out b w' (RW.out.drew.grow hr (by rw [HL.out]; decide))
                unfold Runs
                go_simp
              simp only [Act.put, List.setIfInBounds_toArray, List.set_cons_zero, List.set_cons_succ]
              iterate 3 (refine grow_det ?_ rfl (fun w' => ?_) ?_; rotate_left 1; (unfold Runs; go_simp; rfl); try simp only [Act.put, List.setIfInBounds_toArray, List.set_cons_zero, List.set_cons_succ])
              refine grow_read (.int .i64 (g : Nat)) rfl (fun w' hr hf => ?_) ?_
              · have h1 := cellOf (J.out.drew.same hr).cells 2
                simp [jCells] at h1
                unfold Runs
                go_simp
              simp only [Act.put, List.setIfInBounds_toArray, List.set_cons_zero, List.set_cons_succ]
              iterate 1 (refine grow_det ?_ rfl (fun w' => ?_) ?_; rotate_left 1; (unfold Runs; go_simp; rfl); try simp only [Act.put, List.setIfInBounds_toArray, List.set_cons_zero, List.set_cons_succ])
              refine grow_pred _ rfl (fun w' hr hf => ?_) (fun v => ?_)
              · have h1 := J.out.drew.same hr
                unfold Gives gives
                go_simp
                refine (head_st h1.st g hand _ _ rfl rfl hg hh).mono ?_
                rintro e w14 ⟨b2, rfl, hb2, -, o14⟩
                exact ⟨_, rfl, o14, b2, rfl, hb2⟩
              simp only [Act.put, List.setIfInBounds_toArray, List.set_cons_zero, List.set_cons_succ]
              refine grow_read (.string (strOf (headBytes g hand))) rfl (fun w' hr hf => ?_) ?_
              · have h9 := hf 7 (by kernel_rfl)
                rw [upd_self] at h9
                obtain ⟨b2, rfl, hb2⟩ := h9
                have h1 := conv_any (headBytes g hand) (headBytes_length g hand) b2 w' hb2
                unfold Runs
                go_simp
              simp only [Act.put, List.setIfInBounds_toArray, List.set_cons_zero, List.set_cons_succ]
              refine grow_det (.bool false) rfl (fun w' => ?_) ?_
              · unfold Runs
                go_simp
                all_goals (first | rfl | (exact HEQ.out))
              simp only [Act.put, List.setIfInBounds_toArray, List.set_cons_zero, List.set_cons_succ]
              iterate 1 (refine grow_det ?_ rfl (fun w' => ?_) ?_; rotate_left 1; (unfold Runs; go_simp; rfl); try simp only [Act.put, List.setIfInBounds_toArray, List.set_cons_zero, List.set_cons_succ])
              iterate 1 (refine grow_det ?_ rfl (fun w' => ?_) ?_; rotate_left 1; (unfold Runs; go_simp; rfl); try simp only [Act.put, List.setIfInBounds_toArray, List.set_cons_zero, List.set_cons_succ])
              refine grow_det (.bool false) rfl (fun w' => ?_) ?_
              · unfold Runs
                go_simp
                all_goals (first | rfl | (simp [hbig]))
              simp only [Act.put, List.setIfInBounds_toArray, List.set_cons_zero, List.set_cons_succ]
              iterate 2 (refine grow_det ?_ rfl (fun w' => ?_) ?_; rotate_left 1; (unfold Runs; go_simp; rfl); try simp only [Act.put, List.setIfInBounds_toArray, List.set_cons_zero, List.set_cons_succ])
              iterate 3 (refine grow_det ?_ rfl (fun w' => ?_) ?_; rotate_left 1; (unfold Runs; go_simp; rfl); try simp only [Act.put, List.setIfInBounds_toArray, List.set_cons_zero, List.set_cons_succ])
              refine grow_read (.int .i64 (g : Nat)) rfl (fun w' hr hf => ?_) ?_
              · have h1 := cellOf (J.out.drew.same hr).cells 2
                simp [jCells] at h1
                unfold Runs
                go_simp
              simp only [Act.put, List.setIfInBounds_toArray, List.set_cons_zero, List.set_cons_succ]
              refine grow_det (.bool false) rfl (fun w' => ?_) ?_
              · unfold Runs
                go_simp
                all_goals (first | rfl | (simp))
              simp only [Act.put, List.setIfInBounds_toArray, List.set_cons_zero, List.set_cons_succ]
              iterate 1 (refine grow_det ?_ rfl (fun w' => ?_) ?_; rotate_left 1; (unfold Runs; go_simp; rfl); try simp only [Act.put, List.setIfInBounds_toArray, List.set_cons_zero, List.set_cons_succ])
              refine grow_end (fun w5 hr hf => ?_)
              have h9 := hf 7
              rw [upd_self] at h9
              obtain ⟨b2, rfl, hb2⟩ := h9
              clear hf hb2
              have J5 := Lib.hid (J.out.drew.same hr)
              have O5 := Lib.hid (O.out.drew.trans hr)
              clear hr
              by_cases h0 : hand = 0
              · subst h0
                have hj : jOpen D at_ g 0 = (D, 0) := HJ.out.trans (if_pos rfl)
                have HJ0 := Lib.hid hj
                clear hj HJ
                go_wp2_with fail
                go_ret2
                exact ⟨_, by rw [HJ0.out]; rfl, ⟨fun _ => ⟨jb, rfl, by rw [HJB.out]; exact Nat.le_refl _, by rw [HJ0.out]; exact J5.out⟩, fun e => absurd (show (jOpen D at_ g 0).2 = 0 by rw [HJ0.out]) e⟩, O5.out.two p r⟩
              · have HJ := Lib.hid (HJ.out.trans (if_neg h0))
                have hpos : (0 : Int) < hand := by omega
                have hfin := finish_calls J5.out hand (by omega) (by omega) (by omega) hg m HU.out (by omega)
                obtain ⟨D', ce, hF⟩ : ∃ a c, jFinish D at_ g hand = (a, c) := ⟨_, _, rfl⟩
                rw [hF] at hfin HJ
                have HFIN := Lib.hid hfin
                clear hfin hF
                go_wp2_with fail
                refine HFIN.out.mono ?_
                rintro e w6 ⟨rfl, j6, o6⟩
                have J6 := Lib.hid j6
                have O6 := Lib.hid ((O5.out.two p r).trans o6)
                clear j6 o6
                by_cases hce : ce = 0
                · subst hce
                  go_wp2_with fail
                  go_ret2
                  exact ⟨_, by rw [HJ.out]; rfl, ⟨fun _ => ⟨jb, rfl, by rw [HJB.out]; exact Nat.le_refl _, by rw [HJ.out]; exact J6.out⟩, fun e => absurd (show (jOpen D at_ g hand).2 = 0 by rw [HJ.out]) e⟩, O6.out⟩
                · have hb : (ce != 0) = true := by simpa using hce
                  go_wp2_with fail
                  go_ret2
                  exact ⟨_, by rw [HJ.out]; rfl, ⟨fun e => by rw [HJ.out] at e; exact absurd e hce, fun _ => ⟨rfl, by rw [HJ.out]; exact J6.out.st⟩⟩, O6.out⟩
          · have HEQ := Lib.hid hhd
            have hj : jOpen D at_ g hand = (D, 4) := by
              unfold jOpen
              rw [if_neg (by rw [HROOM.out]; simp), if_neg (by rw [HC.out]; simp), HLL.out, if_pos (Or.inl hhd)]
            have HJ := Lib.hid hj
            clear hj hcell hhd
            refine wp_region_grow (Only (fun _ => False)) (fun | 7 => some (BlockRes (headBytes g hand)) | _ => none) (by kernel_rfl) (by kernel_rfl) (Only.refl _) (fun _ _ _ => Only.trans) ?_ ?_
            · intro i V hV v w1 w2 hr hv
              split at hV
              · cases hV
                exact hv.grow (by rw [headBytes_length]; decide) hr
              · cases hV
            simp only [List.zipIdx_cons, List.zipIdx_nil, Nat.zero_add, Nat.reduceAdd]
            iterate 1 (refine grow_det ?_ rfl (fun w' => ?_) ?_; rotate_left 1; (unfold Runs; go_simp; rfl); try simp only [Act.put, List.setIfInBounds_toArray, List.set_cons_zero, List.set_cons_succ])
            refine grow_read (.string (strOf l)) rfl (fun w' hr hf => ?_) ?_
            · have h1 := conv_any l HL.out b w' (RW.out.drew.grow hr (by rw [HL.out]; decide))
              unfold Runs
              go_simp
            simp only [Act.put, List.setIfInBounds_toArray, List.set_cons_zero, List.set_cons_succ]
            iterate 3 (refine grow_det ?_ rfl (fun w' => ?_) ?_; rotate_left 1; (unfold Runs; go_simp; rfl); try simp only [Act.put, List.setIfInBounds_toArray, List.set_cons_zero, List.set_cons_succ])
            refine grow_read (.int .i64 (g : Nat)) rfl (fun w' hr hf => ?_) ?_
            · have h1 := cellOf (J.out.drew.same hr).cells 2
              simp [jCells] at h1
              unfold Runs
              go_simp
            simp only [Act.put, List.setIfInBounds_toArray, List.set_cons_zero, List.set_cons_succ]
            iterate 1 (refine grow_det ?_ rfl (fun w' => ?_) ?_; rotate_left 1; (unfold Runs; go_simp; rfl); try simp only [Act.put, List.setIfInBounds_toArray, List.set_cons_zero, List.set_cons_succ])
            refine grow_pred _ rfl (fun w' hr hf => ?_) (fun v => ?_)
            · have h1 := J.out.drew.same hr
              unfold Gives gives
              go_simp
              refine (head_st h1.st g hand _ _ rfl rfl hg hh).mono ?_
              rintro e w14 ⟨b2, rfl, hb2, -, o14⟩
              exact ⟨_, rfl, o14, b2, rfl, hb2⟩
            simp only [Act.put, List.setIfInBounds_toArray, List.set_cons_zero, List.set_cons_succ]
            refine grow_read (.string (strOf (headBytes g hand))) rfl (fun w' hr hf => ?_) ?_
            · have h9 := hf 7 (by kernel_rfl)
              rw [upd_self] at h9
              obtain ⟨b2, rfl, hb2⟩ := h9
              have h1 := conv_any (headBytes g hand) (headBytes_length g hand) b2 w' hb2
              unfold Runs
              go_simp
            simp only [Act.put, List.setIfInBounds_toArray, List.set_cons_zero, List.set_cons_succ]
            refine grow_det (.bool true) rfl (fun w' => ?_) ?_
            · unfold Runs
              go_simp
              all_goals (first | rfl | (exact HEQ.out))
            simp only [Act.put, List.setIfInBounds_toArray, List.set_cons_zero, List.set_cons_succ]
            iterate 1 (refine grow_det ?_ rfl (fun w' => ?_) ?_; rotate_left 1; (unfold Runs; go_simp; rfl); try simp only [Act.put, List.setIfInBounds_toArray, List.set_cons_zero, List.set_cons_succ])
            iterate 10 (refine grow_det ?_ rfl (fun w' => ?_) ?_; rotate_left 1; (unfold Runs; go_simp; rfl); try simp only [Act.put, List.setIfInBounds_toArray, List.set_cons_zero, List.set_cons_succ])
            refine grow_end (fun w5 hr hf => ?_)
            have h9 := hf 7
            rw [upd_self] at h9
            obtain ⟨b2, rfl, hb2⟩ := h9
            clear hf hb2
            have J5 := Lib.hid (J.out.drew.same hr)
            have O5 := Lib.hid (O.out.drew.trans hr)
            clear hr
            go_wp2_with fail
            go_ret2
            exact ⟨_, by rw [HJ.out]; rfl, ⟨fun e => by rw [HJ.out] at e; simp at e, fun _ => ⟨rfl, by rw [HJ.out]; exact J5.out.st⟩⟩, O5.out.two p r⟩
    · have HCC := Lib.hid hc
      have hj : jOpen D at_ g hand = (D, D.code at_) := by
        unfold jOpen
        rw [if_neg (by rw [hroom]; simp), if_pos hc]
      have HJ := Lib.hid hj
      have hb : (D.code at_ != 0) = true := by simpa using hc
      clear hc hroom hj
      go_enter Try.func11, Try.ntmps11
      go_wp2_with fail
      refine HX.out.mono ?_
      rintro e w' ⟨rfl, rfl⟩
      go_wp2_with fail
      have O0 := Lib.hid ((Only.refl (fun _ => False) w).alloc (.cells #[.pointer (some ⟨p, 0, none⟩), .int .i64 at_, .int .i64 0] 70))
      refine (read_any (HS.out.same O0.out) at_).mono ?_
      rintro e w2 ⟨a, n, c, rfl, -, -, s2, o2, -⟩
      have S2 := Lib.hid s2
      have O2 := Lib.hid (O0.out.trans o2)
      clear s2 o2
      generalize D.code at_ = cc at *
      go_wp2_with fail
      go_ret2
      exact ⟨_, by rw [HJ.out]; rfl, ⟨fun e => by rw [HJ.out] at e; exact absurd e HCC.out, fun _ => ⟨rfl, by rw [HJ.out]; exact S2.out⟩⟩, O2.out.two p r⟩
  · have hr' : roomAt D at_ = false := by simpa using hroom
    have H := HT.out
    rw [hr'] at H
    have HX := Lib.hid H
    have hj : jOpen D at_ g hand = (D, 1) := by unfold jOpen; rw [if_pos hr']
    have HJ := Lib.hid hj
    clear H HT hroom hr' hj
    go_enter Try.func11, Try.ntmps11
    go_wp2_with fail
    refine HX.out.mono ?_
    rintro e w' ⟨rfl, rfl⟩
    go_wp2_with fail
    go_ret2
    exact ⟨_, by rw [HJ.out]; rfl, ⟨fun e => by rw [HJ.out] at e; simp at e, fun _ => ⟨rfl, by rw [HJ.out]; exact h⟩⟩, Only.refl _ _⟩
end Go.Proofs.Ytpmlmjbhgonegaa
