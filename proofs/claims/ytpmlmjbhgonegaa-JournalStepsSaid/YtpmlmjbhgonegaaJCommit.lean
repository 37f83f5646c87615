/- Contract of the journal's Commit. -/
import Derived.Test.YtpmlmjbhgonegaaJMay
import Derived.Test.YtpmlmjbhgonegaaJOpen
import Derived.Test.YtpmlmjbhgonegaaJModel
import Derived.OwnWalk
namespace Go.Proofs.Ytpmlmjbhgonegaa
open Go.RowKit

abbrev Three (p r jb : Nat) : Nat → Prop := fun k => k = p ∨ k = r ∨ k = jb

theorem putByte_vals (bn : Nat) (h : bn < 65536) : [Value.int .u8 ((bn : Int) / 256), Value.int .u8 ((bn : Int) % 256)] = (putByte (bn : Int)).map bv := by
  unfold putByte bv
  simp
  omega

theorem copy_pad (w : World) (gg t n c : Nat) (L : List UInt8) (hrow : RowAt w ⟨gg, t, none⟩ (L.drop t)) (hn : n = (L.drop t).length) :
    (Builtin.copy_ #[32, 32] 3 #[.slice (some ⟨w.heap.size, 0, none⟩) 64 64, .slice (some ⟨gg, t, none⟩) n c]).run Try.prog (w.alloc (.cells (bvs zeros64) 5)) = .ok (goInt (((L.drop t).take 64).map bv).length) (w.alloc (.cells (bvs (padTo (L.drop t))) 5)) := by
  have hrow2 : RowAt (w.alloc (.cells (bvs zeros64) 5)) ⟨gg, t, none⟩ (L.drop t) := fun i b e => some_kept ((Only.refl (fun _ => False) w).alloc _) (hrow i b e)
  rw [run_copy_row Try.prog (w.alloc (.cells (bvs zeros64) 5)) 32 32 3 5 w.heap.size 0 64 64 ⟨gg, t, none⟩ n c (bvs zeros64) 5 (((L.drop t).take 64).map bv) Try.underlying32 (by kernel_rfl) (heap_alloc_new _ _) (by
    rw [List.length_map, List.length_take, hn]
    exact Nat.min_comm _ _) (by
    intro j v hj
    rw [List.getElem?_map] at hj
    cases e : ((L.drop t).take 64)[j]? with
    | none => rw [e] at hj; cases hj
    | some b =>
      rw [e] at hj
      cases hj
      refine hrow2 j b ?_
      rw [List.getElem?_take] at e
      split at e
      · exact e
      · cases e) (by
    rw [List.length_map, List.length_take, bvs_size]
    simp [zeros64]
    omega) (by
    intro v hv
    obtain ⟨b, -, rfl⟩ := List.mem_map.1 hv
    rfl), setRow_new]
  congr 4
  unfold bvs padTo zeros64
  rw [List.length_map]
  simp only [List.take_zero, List.nil_append, Nat.zero_add, List.map_append, List.map_replicate]
  congr 2
  rw [List.drop_replicate]

theorem two_three {p r jb k : Nat} (h : Two p r k) : Three p r jb k := h.elim Or.inl (fun e => Or.inr (Or.inl e))
theorem two_cells (w : World) (o : Obj) (a b : Value) (t : TypeId) : ∀ (j : Nat) u, [a, b][j]? = some u → ((w.alloc o).alloc (.cells #[a, b] t)).cell? ((⟨w.heap.size + 1, 0, none⟩ : Addr).add j) = some u := by
  intro j u hj
  have hadd : (⟨w.heap.size + 1, 0, none⟩ : Addr).add j = ⟨(w.alloc o).heap.size, j, none⟩ := by
    rw [heap_alloc_size]
    unfold Addr.add
    split <;> simp_all
  rw [hadd, cellOf (heap_alloc_new _ _)]
  simpa using hj
theorem JSt.apart {T : Nat → Prop} {B : Nat} {w0 w w' : World} {p r : Nat} {D : DK} {jb : Nat} {at_ g : Int} (h : JSt B w0 w p r D jb at_ g) (o : Only T w w') (hT : ∀ k, T k → B ≤ k ∧ k ≠ p ∧ k ≠ r ∧ k ≠ jb) : JSt B w0 w' p r D jb at_ g :=
  ⟨⟨h.st.disk.only o (fun e => (hT _ e).2.1 rfl) (fun e => (hT _ e).2.2.1 rfl), o.below h.st.below h.st.hB (fun i hi => (hT i hi).1), h.st.hp, h.st.hr, Nat.le_trans h.st.hB o.size⟩, o.keeps h.cells (fun e => (hT _ e).2.2.2 rfl), h.hj, h.np, h.nr⟩
theorem u8_info : ∃ i, Try.prog.info? 5 = some i ∧ i.zero = some (.int .u8 0) ∧ i.size = 1 ∧ i.bytes = 1 := by
  have h := u8Info
  cases hq : Try.prog.info? 5 with
  | none => rw [hq] at h; cases h
  | some i =>
    rw [hq] at h
    simp at h
    exact ⟨i, rfl, h.1, h.2.1, h.2.2⟩

set_option maxRecDepth 100000 in
set_option maxHeartbeats 20000000 in
theorem commit_calls {B : Nat} {w0 w : World} {p r : Nat} {D0 : DK} {jb : Nat} {at_ : Int} {g : Nat} (h : JSt B w0 w p r D0 jb at_ g) (ha : 0 ≤ at_) (ha2 : at_ + 199 ≤ D0.len) (hl : D0.len ≤ 4096) (hg : g < 9000000000000000000) (x : Option Addr) (l : List (Int × List UInt8)) (n c : Nat) (hn : n = l.length) (hmax : n ≤ 9223372036854775807) (hP : PutsAt (Three p r jb) w x l) (m : Int) (hu : D0.under m) (hm : m < 8000000000000000000) :
    Calls Try.prog 17 #[.pointer (some ⟨jb, 0, none⟩), .slice x n c] w fun e w' => e = .returned (.int .i64 (jCommit D0 at_ g l (jMay D0 at_ l)).2.1) ∧ JSt B w0 w' p r (jCommit D0 at_ g l (jMay D0 at_ l)).1 jb at_ ((jCommit D0 at_ g l (jMay D0 at_ l)).2.2 : Nat) ∧ Only (Three p r jb) w w' := by
  have hmc := may_calls h ha ha2 hl x l n c hn hmax hP
  by_cases hmay : jMay D0 at_ l = true
  · rw [hmay] at hmc ⊢
    have HMC := Lib.hid hmc
    clear hmc
    have hn192 : n ≤ 192 := by
      unfold jMay at hmay
      simp at hmay
      omega
    have hall : ∀ (k : Nat) b bs, l[k]? = some (b, bs) → ∃ bn : Nat, b = bn ∧ bn < 4096 ∧ bs.length = 64 := by
      intro k b bs hk
      unfold jMay jMayTo at hmay
      have hkl : k < l.length := by
        rcases Nat.lt_or_ge k l.length with h1 | h1
        · exact h1
        · rw [List.getElem?_eq_none h1] at hk; cases hk
      simp only [Bool.and_eq_true, List.all_eq_true, List.mem_range] at hmay
      have := hmay.1 k hkl
      rw [List.getD_eq_getElem?_getD, hk] at this
      simp [jMayOne] at this
      exact ⟨b.toNat, by omega, by omega, by omega⟩
    have HALL := Lib.hid hall
    have HN := Lib.hid hn
    have J0 := Lib.hid h
    have HU := Lib.hid hu
    have HP := Lib.hid hP
    clear h hu hall hn hmay hP
    go_enter Try.func17, Try.ntmps17
    go_wp2_with fail
    refine HMC.out.mono ?_
    rintro e w1 ⟨rfl, o1⟩
    have J1 := Lib.hid (J0.out.same o1)
    have O1 := Lib.hid (o1.mono (T := Three p r jb) (fun _ _ e => e.elim))
    have HP1 := Lib.hid (HP.out.grow o1)
    have hsz := o1.size
    have HS := Lib.hid hsz
    have HLT := Lib.hid (show p < w1.heap.size ∧ r < w1.heap.size ∧ jb < w1.heap.size ∧ B ≤ w1.heap.size from ⟨lt_of_heap J1.out.st.disk.cells, by obtain ⟨_, _, hm, _⟩ := J1.out.st.disk.map; exact lt_of_heap hm, lt_of_heap J1.out.cells, J1.out.st.hB⟩)
    obtain ⟨i0, hi0⟩ := u8_info
    have HI := Lib.hid hi0
    clear o1 hsz hi0
    go_wp2_with fail
    go_loopw [19, 5] (fun i v wr => ∃ (k : Nat) (D : DK), i = .int .i64 k ∧ k ≤ n ∧ JSt B w0 wr p r D jb at_ g ∧ Only (Two p r) w1 wr ∧ D.under (m + k) ∧ wr.ownsRow w1.heap.size 5 1 v (2 * k) ((listBytes (l.take k)).map bv) ∧ jRow (putsRow at_ l) n 0 D0 = jRow (putsRow at_ l) (n - k) k D) (fun i _ _ => n - (intOf i).toNat)
    case atStart => exact ⟨0, D0, rfl, by omega, J1.out, Only.refl _ _, HU.out.mono (by omega), World.ownsRow_nil _ _ _ _, by simp⟩
    case round =>
      obtain ⟨k, D, rfl, hk, hj, ho, hud, hown, hs⟩ := hrel
      have J := Lib.hid hj
      have O := Lib.hid ho
      have HD := Lib.hid hud
      have HO := Lib.hid hown
      have HR := Lib.hid hs
      clear hj ho hud hown hs
      by_cases hlt : k < n
      · obtain ⟨b, bs, hb⟩ : ∃ b bs, l[k]? = some (b, bs) := ⟨_, _, List.getElem?_eq_getElem (by have := HN.out; omega)⟩
        obtain ⟨ad, a, cc, rfl, d0, d1, hsl, htd, hta⟩ := HP1.out k b bs hb
        have c0 : wr.cell? (ad.add (k * 2)) = some (.int .i64 b) := (O.out.cell (block_lt_of_cell d0) (by rw [add_block]; exact fun e => htd (two_three e))).trans d0
        have c1 : wr.cell? ⟨(ad.add (k * 2)).block, (ad.add (k * 2)).off + 1, none⟩ = some (.slice a bs.length cc) := (O.out.cell (block_lt_of_cell d1) (by rw [add_block]; exact fun e => htd (two_three e))).trans d1
        clear d0 d1 htd
        obtain ⟨bn, rfl, hbn, hbl⟩ := HALL.out k b bs hb
        rw [hbl] at c1
        have HB := Lib.hid hb
        have HSL := Lib.hid hsl
        have HBL := Lib.hid hbl
        have HTA := Lib.hid hta
        clear hb hsl hbl hta
        go_wp2_with (at_builtin; refine wpList_append_own _ rfl (.tmp 24) (.tmp 32) 32 rfl w1.heap.size 5 i0 (.int .u8 0) 1 1 Try.underlying32 HI.out.1 HI.out.2.1 HI.out.2.2.1 HI.out.2.2.2 rfl (by decide) _ _ _ rfl ((HO.out.alloc _).alloc _) ⟨wr.heap.size + 1, 0, none⟩ 2 2 [.int .u8 ((bn : Int) / 256), .int .u8 ((bn : Int) % 256)] rfl rfl (two_cells _ _ _ _ _) (by simp [Value.oneCell']) (by unfold maxLen; omega) (by omega) (by have := O.out.size; simp; omega) ?_; intro v' w3 hown3 hgr3 hnil3)
        have hT : ∀ q, u5.ownBlock = some q → w1.heap.size ≤ q := fun q hq => (HO.out.lt q hq).1
        have h23 := (((Only.refl (fun q => u5.ownBlock = some q) wr).alloc (.cells #[.int .i64 (bn : Nat), .slice a 64 cc] 44)).alloc (.cells #[.int .u8 ((bn : Int) / 256), .int .u8 ((bn : Int) % 256)] 5)).grown hgr3 (fun q hq => Or.inl hq)
        have J3 := Lib.hid (J.out.apart h23 (fun q hq => by have := hT q hq; have := HLT.out; omega))
        have O3 := Lib.hid ((((O.out.alloc (.cells #[.int .i64 (bn : Nat), .slice a 64 cc] 44)).alloc (.cells #[.int .u8 ((bn : Int) / 256), .int .u8 ((bn : Int) % 256)] 5))).grown hgr3 (fun q hq => Or.inr (hT q hq)))
        have cs : w3.cell? ⟨wr.heap.size, 1, none⟩ = some (.slice a 64 cc) := by
          refine hgr3.cell ?_ ?_
          · exact some_kept ((Only.refl (fun _ => False) _).alloc _) (cellOf (heap_alloc_new _ _) 1)
          · intro e
            have := (HO.out.lt _ e.symm).2
            simp at this
        have hown4 : w3.ownsRow w1.heap.size 5 1 v' (2 * (k + 1)) ((listBytes (l.take (k + 1))).map bv) := by
          rw [listBytes_more HB.out, List.map_append, ← putByte_vals bn (by omega)]
          exact hown3
        have HOW := Lib.hid hown4
        have hwA : IntKind.i64.wrap (at_ + 7) = at_ + 7 := IntWalk.i64_in _ (by omega)
        have hwB : IntKind.i64.wrap (at_ + 7 + (k : Int)) = at_ + 7 + (k : Int) := IntWalk.i64_in _ (by omega)
        obtain ⟨pb, hpb⟩ : ∃ pb, pb = wr.heap.size := ⟨_, rfl⟩
        rw [← hpb] at cs
        clear hown3 hgr3 hnil3 hT h23 hown4 c0 c1
        generalize wr.heap.size = pb2 at *
        subst hpb
        go_wp2_with fail
        refine wp_region_growT 13 (Only (fun _ => False)) (fun | _ => none) (by kernel_rfl) (by kernel_rfl) (by kernel_rfl) (by kernel_rfl) (by kernel_rfl) (Only.refl _) (fun _ _ _ => Only.trans) ?_ ?_
        · intro i V hV
          cases hV
        simp only [List.zipIdx_cons, List.zipIdx_nil, Nat.zero_add, Nat.reduceAdd, List.take_succ_cons, List.take_zero, List.drop_succ_cons, List.drop_zero]
        iterate 3 (refine grow_det ?_ rfl (fun w' => ?_) ?_; rotate_left 1; (unfold Runs; go_simp; rfl); try simp only [Act.put, List.setIfInBounds_toArray, List.set_cons_zero, List.set_cons_succ])
        refine grow_read (.pointer (some ⟨p, 0, none⟩)) rfl (fun w' hr hf => ?_) ?_
        · have h1 := cellOf (J3.out.drew.same hr).cells 0
          simp [jCells] at h1
          unfold Runs
          go_simp
        simp only [Act.put, List.setIfInBounds_toArray, List.set_cons_zero, List.set_cons_succ]
        iterate 3 (refine grow_det ?_ rfl (fun w' => ?_) ?_; rotate_left 1; (unfold Runs; go_simp; rfl); try simp only [Act.put, List.setIfInBounds_toArray, List.set_cons_zero, List.set_cons_succ])
        refine grow_read (.int .i64 at_) rfl (fun w' hr hf => ?_) ?_
        · have h1 := cellOf (J3.out.drew.same hr).cells 1
          simp [jCells] at h1
          unfold Runs
          go_simp
        simp only [Act.put, List.setIfInBounds_toArray, List.set_cons_zero, List.set_cons_succ]
        iterate 4 (refine grow_det ?_ rfl (fun w' => ?_) ?_; rotate_left 1; (unfold Runs; go_simp; rfl); try simp only [Act.put, List.setIfInBounds_toArray, List.set_cons_zero, List.set_cons_succ])
        refine grow_read (.slice a 64 cc) rfl (fun w' hr hf => ?_) ?_
        · have h1 := some_kept hr cs
          unfold Runs
          go_simp
        simp only [Act.put, List.setIfInBounds_toArray, List.set_cons_zero, List.set_cons_succ]
        refine grow_end (fun w5 hr hf => ?_)
        clear hf
        clear cs hwA hwB
        have J5 := Lib.hid (J3.out.drew.same hr)
        have O5 := Lib.hid (O3.out.drew.trans (hr.two p r))
        have OW5 := Lib.hid (ownsRow_only HOW.out.drew hr (fun _ _ e => e))
        have SL5 := Lib.hid (HSL.out.only O5.out (fun s e hl h2 => HTA.out s e hl (two_three h2)))
        clear hr
        obtain ⟨D', we, hw⟩ : ∃ a b, D.write (at_ + 7 + (k : Nat)) bs = (a, b) := ⟨_, _, rfl⟩
        have hwr := write_st J5.out.st (at_ + 7 + (k : Nat)) a bs 64 cc HBL.out SL5.out (HD.out.fine (by omega))
        have hud' := HD.out.write (at_ + 7 + (k : Nat)) bs
        have hpr : putsRow at_ l k = (at_ + 7 + (k : Nat), bs) := by
          unfold putsRow
          rw [List.getD_eq_getElem?_getD, HB.out]; rfl
        have hwp : D.write (putsRow at_ l k).1 (putsRow at_ l k).2 = (D', we) := by rw [hpr]; exact hw
        rw [hw] at hwr hud'
        have HWR := Lib.hid hwr
        have HUD := Lib.hid hud'
        have HWP := Lib.hid hwp
        clear hwr hud' hwp hpr hw
        go_wp2_with fail
        refine HWR.out.mono ?_
        rintro e w6 ⟨rfl, s6, o6⟩
        have J6 := Lib.hid (J5.out.next s6 o6)
        have O6 := Lib.hid (O5.out.trans o6)
        have OW6 := Lib.hid (ownsRow_only OW5.out o6 (fun q hq e => by have := HLT.out; rcases e with e | e <;> omega))
        clear s6 o6
        obtain ⟨q, hq⟩ : ∃ q, n - k = q + 1 := ⟨n - k - 1, by omega⟩
        by_cases hwe : we = 0
        · subst hwe
          have hs1 : jRow (putsRow at_ l) n 0 D0 = jRow (putsRow at_ l) q (k + 1) D' := HR.out.trans (by rw [hq]; exact jRow_step _ q k D D' HWP.out)
          have hq2 : n - (k + 1) = q := by omega
          rw [← hq2] at hs1
          have F := Lib.hid hs1
          clear hs1 hq hq2
          go_wp2_with fail
          go_roundw
          case rel => exact ⟨k + 1, D', by go_num, by omega, J6.out, O6.out, HUD.out.mono (by omega), OW6.out, F.out⟩
          case measure => simp [intOf]; omega
        · have hs1 : jRow (putsRow at_ l) n 0 D0 = (D', we) := HR.out.trans (by rw [hq]; exact jRow_bad _ q k D D' we HWP.out hwe)
          rw [HN.out] at hs1
          have F := Lib.hid (jCommit_puts (g := g) hs1 hwe)
          have hb : (we != 0) = true := by simpa using hwe
          clear hs1 hq hwe
          go_wp2_with fail
          go_ret
          exact ⟨by rw [F.out]; rfl, by rw [F.out]; exact J6.out, O1.out.trans (O6.out.mono (fun _ _ => two_three))⟩
      · have hkn : k = n := by omega
        subst hkn
        have hs1 : jRow (putsRow at_ l) l.length 0 D0 = (D, 0) := by
          have := HR.out
          rw [Nat.sub_self] at this
          rw [← HN.out, this]
          rfl
        have F := Lib.hid (jCommit_to2 (g := g) hs1)
        have hown := HO.out
        rw [show l.take k = l from by rw [HN.out]; exact List.take_length] at hown
        have OW := Lib.hid hown
        clear hs1 hown HO HR
        obtain ⟨a5, c5, hu5, hc5⟩ : ∃ a5 c5, u5 = .slice a5 (2 * k) c5 ∧ 2 * k ≤ c5 := by
          rcases OW.out.2 with ⟨e, h0⟩ | ⟨gg, cap, cur, e, -, -, hle, -⟩
          · exact ⟨none, 0, by rw [e, h0], by omega⟩
          · exact ⟨_, _, e, hle⟩
        subst hu5
        have hmk : ∀ w, (Instr.makeSlice 32 (.int .i64 64) (.int .i64 64)).run Try.prog w = .ok (.slice (some ⟨w.heap.size, 0, none⟩) 64 64) (w.alloc (.cells (bvs zeros64) 5)) := fun w => by kernel_rfl
        have HMK := Lib.hid hmk
        clear hmk
        go_wp2_with fail
        go_loopw [9] (fun i w2 => ∃ (j t : Nat) (D2 : DK), t = 64 * j ∧ i = .int .i64 (t : Nat) ∧ j ≤ (2 * k + 63) / 64 ∧ JSt B w0 w2 p r D2 jb at_ g ∧ Only (Two p r) w1 w2 ∧ D2.under (m + k + j) ∧ w2.ownsRow w1.heap.size 5 1 (.slice a5 (2 * k) c5) (2 * k) ((listBytes l).map bv) ∧ jRow (listsRow at_ l) ((2 * k + 63) / 64) 0 D = jRow (listsRow at_ l) ((2 * k + 63) / 64 - j) j D2) (fun i _ => 2 * k + 64 - (intOf i).toNat)
        case atStart => exact ⟨0, 0, D, rfl, rfl, by omega, J.out, O.out, HD.out.mono (by omega), OW.out, by simp⟩
        case round =>
          obtain ⟨j, t, D2, htj, rfl, hj, hj2, ho2, hud2, hown2, hs2⟩ := hrel
          have J2 := Lib.hid hj2
          have O2 := Lib.hid ho2
          have HD2 := Lib.hid hud2
          have OW2 := Lib.hid hown2
          have HR2 := Lib.hid hs2
          have HTJ := Lib.hid htj
          have HJ := Lib.hid hj
          clear hj2 ho2 hud2 hown2 hs2
          by_cases hlt : t < 2 * k
          · clear htj hj
            obtain ⟨gg, hgg⟩ : ∃ gg, a5 = some ⟨gg, 0, none⟩ := by
              rcases OW2.out.2 with ⟨e, h0⟩ | ⟨gg, cap, cur, e, -⟩
              · omega
              · cases e; exact ⟨gg, rfl⟩
            subst hgg
            have hmk := HMK.out
            have hkl : k = l.length := HN.out
            have hcp := copy_pad wr gg t (2 * k - t) (c5 - t) (listBytes l) (ownsRow_row OW2.out t) (by rw [List.length_drop, listBytes_length, ← hkl])
            have hwq : IntKind.i64.wrap ((t : Int) / 64) = (j : Int) := by
              have := HTJ.out
              rw [IntWalk.i64_in _ (by omega)]
              omega
            have hws : IntKind.i64.wrap (at_ + 1 + (j : Int)) = at_ + 1 + (j : Int) := IntWalk.i64_in _ (by have := HJ.out; omega)
            have hwa : IntKind.i64.wrap (at_ + 1) = at_ + 1 := IntWalk.i64_in _ (by omega)
            clear hkl
            go_wp2_with fail
            clear hmk hcp
            have J3 := Lib.hid (J2.out.same ((Only.refl _ wr).alloc (.cells (bvs (padTo ((listBytes l).drop t))) 5)))
            have O3 := Lib.hid (O2.out.alloc (.cells (bvs (padTo ((listBytes l).drop t))) 5))
            have OW3 := Lib.hid (OW2.out.alloc (.cells (bvs (padTo ((listBytes l).drop t))) 5))
            have ROW3 := Lib.hid (RowAt.of_cells (heap_alloc_new wr (.cells (bvs (padTo ((listBytes l).drop t))) 5)))
            generalize wr.alloc (.cells (bvs (padTo ((listBytes l).drop t))) 5) = w3 at *
            generalize wr.heap.size = nb at *
            refine wp_region_growT 13 (Only (fun _ => False)) (fun | _ => none) (by kernel_rfl) (by kernel_rfl) (by kernel_rfl) (by kernel_rfl) (by kernel_rfl) (Only.refl _) (fun _ _ _ => Only.trans) ?_ ?_
            · intro i V hV
              cases hV
            simp only [List.zipIdx_cons, List.zipIdx_nil, Nat.zero_add, Nat.reduceAdd, List.take_succ_cons, List.take_zero, List.drop_succ_cons, List.drop_zero]
            iterate 3 (refine grow_det ?_ rfl (fun w' => ?_) ?_; rotate_left 1; (unfold Runs; go_simp; rfl); try simp only [Act.put, List.setIfInBounds_toArray, List.set_cons_zero, List.set_cons_succ])
            refine grow_read (.pointer (some ⟨p, 0, none⟩)) rfl (fun w' hr hf => ?_) ?_
            · have h1 := cellOf (J3.out.drew.same hr).cells 0
              simp [jCells] at h1
              unfold Runs
              go_simp
            simp only [Act.put, List.setIfInBounds_toArray, List.set_cons_zero, List.set_cons_succ]
            iterate 3 (refine grow_det ?_ rfl (fun w' => ?_) ?_; rotate_left 1; (unfold Runs; go_simp; rfl); try simp only [Act.put, List.setIfInBounds_toArray, List.set_cons_zero, List.set_cons_succ])
            refine grow_read (.int .i64 at_) rfl (fun w' hr hf => ?_) ?_
            · have h1 := cellOf (J3.out.drew.same hr).cells 1
              simp [jCells] at h1
              unfold Runs
              go_simp
            simp only [Act.put, List.setIfInBounds_toArray, List.set_cons_zero, List.set_cons_succ]
            iterate 5 (refine grow_det ?_ rfl (fun w' => ?_) ?_; rotate_left 1; (unfold Runs; go_simp; rfl); try simp only [Act.put, List.setIfInBounds_toArray, List.set_cons_zero, List.set_cons_succ])
            refine grow_end (fun w5 hr hf => ?_)
            clear hf
            clear hwq hws hwa
            have J5 := Lib.hid (J3.out.drew.same hr)
            have O5 := Lib.hid (O3.out.drew.trans (hr.two p r))
            have OW5 := Lib.hid (ownsRow_only OW3.out.drew hr (fun _ _ e => e))
            have R5 := Lib.hid (ROW3.out.drew.grow hr (by rw [padTo_length]; decide))
            clear hr
            obtain ⟨D', we, hw⟩ : ∃ a b, D2.write (at_ + 1 + (j : Nat)) (padTo ((listBytes l).drop t)) = (a, b) := ⟨_, _, rfl⟩
            have hwr := write_st J5.out.st (at_ + 1 + (j : Nat)) _ _ 64 64 (padTo_length _) (.of_row R5.out) (HD2.out.fine (by have := HJ.out; omega))
            have hud' := HD2.out.write (at_ + 1 + (j : Nat)) (padTo ((listBytes l).drop t))
            have hwp : D2.write (listsRow at_ l j).1 (listsRow at_ l j).2 = (D', we) := by unfold listsRow; rw [← HTJ.out]; exact hw
            rw [hw] at hwr hud'
            have HWR := Lib.hid hwr
            have HUD := Lib.hid hud'
            have HWP := Lib.hid hwp
            clear hwr hud' hwp hw
            go_wp2_with fail
            refine HWR.out.mono ?_
            rintro e w6 ⟨rfl, s6, o6⟩
            have J6 := Lib.hid (J5.out.next s6 o6)
            have O6 := Lib.hid (O5.out.trans o6)
            have OW6 := Lib.hid (ownsRow_only OW5.out o6 (fun q hq e => by have := HLT.out; rcases e with e | e <;> omega))
            clear s6 o6
            obtain ⟨q, hq⟩ : ∃ q, (2 * k + 63) / 64 - j = q + 1 := ⟨(2 * k + 63) / 64 - j - 1, by have := HTJ.out; omega⟩
            by_cases hwe : we = 0
            · subst hwe
              have hs1 : jRow (listsRow at_ l) ((2 * k + 63) / 64) 0 D = jRow (listsRow at_ l) q (j + 1) D' := HR2.out.trans (by rw [hq]; exact jRow_step _ q j D2 D' HWP.out)
              have hq2 : (2 * k + 63) / 64 - (j + 1) = q := by omega
              rw [← hq2] at hs1
              have F2 := Lib.hid hs1
              have hj1 : j + 1 ≤ (2 * k + 63) / 64 := by omega
              have HJ1 := Lib.hid hj1
              clear hs1 hq hq2 hj1
              go_wp2_with fail
              go_roundw
              case rel => exact ⟨j + 1, t + 64, D', by have := HTJ.out; omega, by go_num, HJ1.out, J6.out, O6.out, HUD.out.mono (by omega), OW6.out, F2.out⟩
              case measure => simp [intOf]; omega
            · have hs1 : jRow (listsRow at_ l) ((2 * k + 63) / 64) 0 D = (D', we) := HR2.out.trans (by rw [hq]; exact jRow_bad _ q j D2 D' we HWP.out hwe)
              rw [show k = l.length from HN.out] at hs1
              have F2 := Lib.hid (F.out.trans (jCommit2_lists (g := g) hs1 hwe))
              have hb : (we != 0) = true := by simpa using hwe
              clear hs1 hq hwe
              go_wp2_with fail
              go_ret
              exact ⟨by rw [F2.out]; rfl, by rw [F2.out]; exact J6.out, O1.out.trans (O6.out.mono (fun _ _ => two_three))⟩
          · have hje : j = (2 * k + 63) / 64 := by omega
            have hs1 : jRow (listsRow at_ l) ((2 * l.length + 63) / 64) 0 D = (D2, 0) := by
              have h1 := HR2.out
              rw [hje, Nat.sub_self] at h1
              rw [← HN.out, h1]
              rfl
            have hf3 := F.out.trans (jCommit2_to3 (g := g) hs1)
            rw [← HN.out] at hf3
            have F3 := Lib.hid hf3
            have hwg : IntKind.i64.wrap ((g : Int) + 1) = (g : Int) + 1 := IntWalk.i64_in _ (by omega)
            clear hs1 hf3 htj hj hje
            go_wp2_with fail
            refine wp_region_growT 16 (Only (fun _ => False)) (fun | 15 => some (BlockRes (headBytes (g + 1) k)) | _ => none) (by kernel_rfl) (by kernel_rfl) (by kernel_rfl) (by kernel_rfl) (by kernel_rfl) (Only.refl _) (fun _ _ _ => Only.trans) ?_ ?_
            · intro i V hV v w1 w2 hr hv
              split at hV
              · cases hV
                exact hv.grow (by rw [headBytes_length]; decide) hr
              · cases hV
            simp only [List.zipIdx_cons, List.zipIdx_nil, Nat.zero_add, Nat.reduceAdd, List.take_succ_cons, List.take_zero, List.drop_succ_cons, List.drop_zero]
            iterate 3 (refine grow_det ?_ rfl (fun w' => ?_) ?_; rotate_left 1; (unfold Runs; go_simp; rfl); try simp only [Act.put, List.setIfInBounds_toArray, List.set_cons_zero, List.set_cons_succ])
            refine grow_read (.pointer (some ⟨p, 0, none⟩)) rfl (fun w' hr hf => ?_) ?_
            · have h1 := cellOf (J2.out.drew.same hr).cells 0
              simp [jCells] at h1
              unfold Runs
              go_simp
            simp only [Act.put, List.setIfInBounds_toArray, List.set_cons_zero, List.set_cons_succ]
            iterate 3 (refine grow_det ?_ rfl (fun w' => ?_) ?_; rotate_left 1; (unfold Runs; go_simp; rfl); try simp only [Act.put, List.setIfInBounds_toArray, List.set_cons_zero, List.set_cons_succ])
            refine grow_read (.int .i64 at_) rfl (fun w' hr hf => ?_) ?_
            · have h1 := cellOf (J2.out.drew.same hr).cells 1
              simp [jCells] at h1
              unfold Runs
              go_simp
            simp only [Act.put, List.setIfInBounds_toArray, List.set_cons_zero, List.set_cons_succ]
            iterate 3 (refine grow_det ?_ rfl (fun w' => ?_) ?_; rotate_left 1; (unfold Runs; go_simp; rfl); try simp only [Act.put, List.setIfInBounds_toArray, List.set_cons_zero, List.set_cons_succ])
            refine grow_read (.int .i64 (g : Nat)) rfl (fun w' hr hf => ?_) ?_
            · have h1 := cellOf (J2.out.drew.same hr).cells 2
              simp [jCells] at h1
              unfold Runs
              go_simp
            simp only [Act.put, List.setIfInBounds_toArray, List.set_cons_zero, List.set_cons_succ]
            iterate 3 (refine grow_det ?_ rfl (fun w' => ?_) ?_; rotate_left 1; (unfold Runs; go_simp; rfl); try simp only [Act.put, List.setIfInBounds_toArray, List.set_cons_zero, List.set_cons_succ])
            refine grow_pred _ rfl (fun w' hr hf => ?_) (fun v => ?_)
            · have h1 := J2.out.drew.same hr
              unfold Gives gives
              go_simp
              refine (head_st h1.st (g + 1) k _ _ (by omega) rfl (by omega) (by omega)).mono ?_
              rintro e w14 ⟨b2, rfl, hb2, -, o14⟩
              exact ⟨_, rfl, o14, b2, rfl, hb2⟩
            simp only [Act.put, List.setIfInBounds_toArray, List.set_cons_zero, List.set_cons_succ]
            refine grow_end (fun w5 hr hf => ?_)
            have h9 := hf 15
            rw [upd_self] at h9
            obtain ⟨b2, rfl, hb2⟩ := h9
            clear hf
            clear hwg
            have J5 := Lib.hid (J2.out.drew.same hr)
            have O5 := Lib.hid (O2.out.drew.trans (hr.two p r))
            clear hr
            obtain ⟨D', we, hw⟩ : ∃ a b, D2.write at_ (headBytes (g + 1) k) = (a, b) := ⟨_, _, rfl⟩
            have hwr := write_st J5.out.st at_ _ _ 64 64 (headBytes_length (g + 1) k) (.of_row hb2) (HD2.out.fine (by have := HJ.out; omega))
            have hud' := HD2.out.write at_ (headBytes (g + 1) k)
            rw [hw] at hwr hud'
            have HWR := Lib.hid hwr
            have HUD := Lib.hid hud'
            have HW := Lib.hid hw
            clear hwr hud' hw hb2
            go_wp2_with fail
            refine HWR.out.mono ?_
            rintro e w6 ⟨rfl, s6, o6⟩
            have J6 := Lib.hid (J5.out.next s6 o6)
            have O6 := Lib.hid (O1.out.trans ((O5.out.trans o6).mono (fun _ _ => two_three)))
            clear s6 o6
            by_cases hwe : we = 0
            · subst hwe
              have c2 := cellOf J6.out.cells 2
              have f2 := freeOf J6.out.cells 2
              simp [jCells] at c2
              have hwg : IntKind.i64.wrap ((g : Int) + 1) = (g : Int) + 1 := IntWalk.i64_in _ (by omega)
              by_cases hk0 : k = 0
              · subst hk0
                have F4 := Lib.hid (F3.out.trans (jCommit3_none HW.out))
                go_wp2_with fail
                go_ret
                have hJ7 := J6.out.count ((g : Int) + 1)
                exact ⟨by rw [F4.out]; rfl, by rw [F4.out]; exact hJ7, O6.out.setCell (p := ⟨jb, 2, none⟩) (Or.inr (Or.inr rfl)) _⟩
              · have F4 := Lib.hid (F3.out.trans (jCommit3_some HW.out hk0))
                have hpos : ((k : Int) == 0) = false := by simpa using hk0
                obtain ⟨D9, ce, hF⟩ : ∃ a c, jFinish D' at_ (g + 1) k = (a, c) := ⟨_, _, rfl⟩
                have hJ7 := J6.out.count ((g : Int) + 1)
                have hO7 := O6.out.setCell (p := ⟨jb, 2, none⟩) (Or.inr (Or.inr rfl)) (.int .i64 ((g : Int) + 1))
                have hfin := finish_calls (g := g + 1) hJ7 k (by omega) (by omega) (by omega) (by omega) (m + k + (((2 * k + 63) / 64 : Nat) : Int) + 1) (HUD.out.mono (by have := HJ.out; omega)) (by omega)
                rw [hF] at hfin
                have hf5 := F4.out
                rw [hF] at hf5
                have F5 := Lib.hid hf5
                have HFIN := Lib.hid hfin
                have O7 := Lib.hid hO7
                clear hfin hF hJ7 hO7 F4 hf5
                go_wp2_with fail
                refine HFIN.out.mono ?_
                rintro e w8 ⟨rfl, j8, o8⟩
                have J8 := Lib.hid j8
                have O8 := Lib.hid (O7.out.trans (o8.mono (fun _ _ => two_three)))
                clear j8 o8
                go_wp2_with fail
                go_ret
                exact ⟨by rw [F5.out]; rfl, by rw [F5.out]; exact J8.out, O8.out⟩
            · have F4 := Lib.hid (F3.out.trans (jCommit3_head HW.out hwe))
              have hb : (we != 0) = true := by simpa using hwe
              clear hwe
              go_wp2_with fail
              go_ret
              exact ⟨by rw [F4.out]; rfl, by rw [F4.out]; exact J6.out, O6.out⟩
  · have hmf : jMay D0 at_ l = false := by simpa using hmay
    rw [hmf] at hmc ⊢
    have HMC := Lib.hid hmc
    have hj : jCommit D0 at_ g l false = (D0, 20, g) := by unfold jCommit; rw [if_pos rfl]
    have F := Lib.hid hj
    have J0 := Lib.hid h
    clear hmc hmf hmay hj h hP hu hn hmax
    go_enter Try.func17, Try.ntmps17
    go_wp2_with fail
    refine HMC.out.mono ?_
    rintro e w1 ⟨rfl, o1⟩
    have J1 := Lib.hid (J0.out.same o1)
    have O1 := Lib.hid (o1.mono (T := Three p r jb) (fun _ _ e => e.elim))
    clear o1
    go_wp2_with fail
    go_ret
    exact ⟨by rw [F.out]; rfl, by rw [F.out]; exact J1.out, O1.out⟩
end Go.Proofs.Ytpmlmjbhgonegaa
