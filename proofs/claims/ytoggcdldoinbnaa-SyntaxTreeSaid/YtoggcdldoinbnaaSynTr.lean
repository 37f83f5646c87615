/- SyntaxTree's walk: in a tree each node but the last is below just one other. -/
import Derived.Test.YtoggcdldoinbnaaSynX
namespace Go.Proofs.Ytoggcdldoinbnaa
open Go.RowKit
open syn (Tok Nd PS Fo Tr Tabs)
set_option linter.unusedVariables false
set_option linter.unusedSimpArgs false

def zrow (n : Nat) : Array Value := ((List.replicate n 0).map natV).toArray
theorem made_ints (n : Nat) (h : n ≤ 1024) (w : World) : (Instr.makeSlice 31 (.int .i64 (n : Int)) (.int .i64 (n : Int))).run Try.prog w = .ok (.slice (some ⟨w.heap.size, 0, none⟩) n n) (w.alloc (.cells (zrow n) 3)) := by
  unfold zrow
  obtain ⟨i0, hi, hz0, hz2, hz1⟩ := info_parts (show (Try.prog.info? 3).map (fun i => (i.zero, i.size, i.bytes)) = some (some (.int .i64 0), 1, 8) by kernel_rfl)
  have := run_makeSlice (P := Try.prog) w 31 3 i0 (.int .i64 0) Try.underlying31 hi hz0 .i64 .i64 n n (by omega) (by omega) (by rw [hz2]; omega) (by rw [hz1]; omega) (by omega)
  rw [hz2, Int.toNat_natCast, Nat.mul_one] at this
  rw [this]
  congr 3
  apply Array.toList_inj.1
  apply List.ext_getElem
  · simp [madeCells, Value.cells]
  · intro i h1 h2
    simp [madeCells, Value.cells, Nat.mod_one]
set_option maxRecDepth 20000 in
set_option maxHeartbeats 4000000 in
theorem tree_walk (a0 : ByteArray) (w : World) : Calls Try.prog 3 #[.string a0] w fun e w' => e = .returned (.bool true) ∧ Below w.heap.size w w' := by
  obtain ⟨l, hl, hwc⟩ := words_of a0 w
  go_enter Try.func3, Try.ntmps3
  go_wp2_with fail
  refine (shown_calls w).mono ?_
  rintro e w1 ⟨rfl, o1⟩
  go_wp2_with fail
  refine (hwc w1).mono ?_
  rintro e w2 ⟨A1, c1, rfl, hw1, o2⟩
  go_wp2_with fail
  refine (parse_calls (K := l.length + 1) (by omega) hw1 rfl (by omega)).mono ?_
  rintro e w3 ⟨nv, rfl, ht, o3⟩
  have p3 := (o1.trans o2).trans o3
  clear o1 o2 o3 hw1 hwc
  obtain ⟨N1, d1, rfl⟩ := ht.slice
  obtain ⟨hc3, hz3⟩ := arena_new w3 (.slice none 0 0) 25
  rcases parse_out (l.length + 1) l with ⟨p, q, hp, hq⟩ | ⟨x, s, h4, hall, hp, h1024⟩
  · rw [hp]
    have HB := Lib.hid ((p3.alloc (.cells #[.slice N1 0 d1] 25)).below (Below.refl _ _) (Nat.le_refl _) (fun _ e => e.elim))
    clear ht p3 hp
    have hqn : ¬ q = 0 := by omega
    clear hq
    go_wp2_with fail
    exact ⟨rfl, _, by simp [results, Try.results3, go_sem], rfl, HB.out⟩
  · rw [hp] at ht ⊢
    have htr := syn.all_tree hall
    obtain ⟨m, L, hlast⟩ := all_last hall
    obtain ⟨N, hNe⟩ : ∃ N, N = s.n := ⟨_, rfl⟩
    rw [← hNe] at ht htr hlast h1024 ⊢
    obtain ⟨gn, cn, en, -⟩ := ht.form (by rw [htr.1]; omega)
    injection en with en1 en2 en3
    subst en1
    clear en2 en3
    obtain ⟨n, hn⟩ : ∃ n, n = N.length := ⟨_, rfl⟩
    have hNx : n = x + 1 := hn.trans htr.1
    have hT : Tr N 0 x := htr.2
    rw [← hn] at h1024 ⊢
    have hb0 : ((n : Int) == 0) = false := by simp; omega
    have hb1 : decide (1024 < (n : Int)) = false := by simp; omega
    have HX := Lib.hid hNx
    have HP := Lib.hid p3
    have HT := Lib.hid hT
    have HL := Lib.hid hlast
    have HN := Lib.hid hn
    have HR := Lib.hid ht.reads
    clear htr hT p3 hlast hall hp ht hNe hn hNx h4
    have hmk := made_ints n h1024
    go_upto_block 0 with (fail)
    obtain ⟨ar, har⟩ : ∃ q, q = w3.heap.size := ⟨_, rfl⟩
    obtain ⟨wF, hwF⟩ : ∃ q, q = ((w3.alloc (Obj.cells #[Value.slice (some ⟨gn, 0, none⟩) n d1] 25)).alloc (Obj.cells (zrow n) 3)).alloc (Obj.cells (zrow n) 3) := ⟨_, rfl⟩
    rw [← hwF]
    have hca : wF.heap[ar]? = some (.cells #[Value.slice (some ⟨gn, 0, none⟩) n d1] 25 (0, 0)) := by
      rw [hwF, har, heap_alloc_old _ _ (by simp only [heap_alloc_size]; omega), heap_alloc_old _ _ (by simp only [heap_alloc_size]; omega)]
      exact heap_alloc_new w3 _
    have hcb : IRow wF (ar + 1) (List.replicate n 0) := by
      have := heap_alloc_new (w3.alloc (Obj.cells #[Value.slice (some ⟨gn, 0, none⟩) n d1] 25)) (Obj.cells (zrow n) 3)
      rw [heap_alloc_size] at this
      unfold IRow
      rw [hwF, har, heap_alloc_old _ _ (by simp only [heap_alloc_size]; omega)]
      exact this
    have hcf : IRow wF (ar + 1 + 1) (List.replicate n 0) := by
      have := heap_alloc_new ((w3.alloc (Obj.cells #[Value.slice (some ⟨gn, 0, none⟩) n d1] 25)).alloc (Obj.cells (zrow n) 3)) (Obj.cells (zrow n) 3)
      rw [heap_alloc_size, heap_alloc_size] at this
      unfold IRow
      rw [hwF, har]
      exact this
    have hoF : Only (fun _ => False) w3 wF := hwF ▸ (((Only.refl _ w3).alloc _).alloc _).alloc _
    have HRF := Lib.hid (har ▸ HR.out.keep (Nat.le_refl _) hoF (fun _ _ e => e))
    have HPF := Lib.hid (HP.out.trans hoF)
    have hsF : ar + 3 ≤ wF.heap.size := by rw [hwF, har]; simp
    have HCA := Lib.hid hca
    have HCB := Lib.hid hcb
    have HCF := Lib.hid hcf
    have HAR := Lib.hid (show w.heap.size ≤ ar from har ▸ HP.out.size)
    rw [← har]
    clear hca hcb hcf hoF hwF HR HP hc3 hz3 hmk har hl
    go_wp2_with fail
    go_loopw [9, 10, 11, 12, 13] (fun v9 _ _ _ _ wr => ∃ (i : Nat) (bl fr : List Nat), v9 = .int .i64 i ∧ i ≤ n ∧ Tabs N i bl fr ∧ IRow wr (ar + 1) bl ∧ IRow wr (ar + 1 + 1) fr ∧ Only (fun q => q = ar + 1 ∨ q = ar + 1 + 1) wF wr) (fun v9 _ _ _ _ _ => n - (intOf v9).toNat)
    case atStart => exact ⟨0, _, _, rfl, Nat.zero_le _, by have := Tabs.begin N; rw [← HN.out] at this; exact this, HCB.out, HCF.out, Only.refl _ _⟩
    case round =>
      obtain ⟨i, bl, fr, rfl, hi, htab, hbw, hfw, how⟩ := hrel
      have hbl := htab.blen
      have hfl := htab.flen
      rw [← HN.out] at hbl hfl
      have HTAB := Lib.hid htab
      have HB := Lib.hid hbw
      have HF := Lib.hid hfw
      have HO := Lib.hid how
      have HCW := Lib.hid (how.keeps HCA.out (by omega))
      have HSZ := Lib.hid (Nat.le_trans hsF how.size)
      clear htab hbw hfw how
      have ca : wr.cell? ⟨ar, 0, none⟩ = some (Value.slice (some ⟨gn, 0, none⟩) n d1) := (cellOf HCW.out 0).trans rfl
      by_cases hin : i < n
      · have hii : (i : Int) < (n : Int) := by omega
        have cf := HF.out.cell (i := i) (by omega)
        have zf := HF.out.free i
        obtain ⟨nd, q, hnd, hfo, htq⟩ := HTAB.out.node HT.out (HN.out ▸ HX.out) (HN.out ▸ hin)
        have HQ := Lib.hid htq
        have HFO := Lib.hid hfo
        have HND := Lib.hid hnd
        clear htq hfo hnd
        go_upto_region 13 with fail
        obtain ⟨wa, hwa⟩ : ∃ q, q = wr.setCell ⟨ar + 1 + 1, i, none⟩ (Value.int .i64 (i : Int)) := ⟨_, rfl⟩
        rw [← hwa]
        have hfa : IRow wa (ar + 1 + 1) (fr.set i i) := hwa ▸ HF.out.set i i
        have hba : IRow wa (ar + 1) bl := hwa ▸ HB.out.far (by simp) _
        have hoa : Only (fun q => q = ar + 1 ∨ q = ar + 1 + 1) wF wa := hwa ▸ HO.out.setCell (p := ⟨ar + 1 + 1, i, none⟩) (.inr rfl) _
        have hca : wa.cell? ⟨ar, 0, none⟩ = some (Value.slice (some ⟨gn, 0, none⟩) n d1) := (cellOf (hoa.keeps HCA.out (by omega)) 0).trans rfl
        obtain ⟨-, -, A2, c2, hk3, hk⟩ := (HRF.out.keep (by omega) hoa (fun q hq e => by omega)).node HND.out
        obtain ⟨kl, hkl⟩ : ∃ q, q = nd.kids.length := ⟨_, rfl⟩
        rw [← hkl] at hk3
        have hkb : kl ≤ 1024 := by have := syn.Fo.count _ _ _ _ rfl HFO.out; omega
        have HK := Lib.hid hk
        have HFA := Lib.hid hfa
        have HBA := Lib.hid hba
        have HOA := Lib.hid hoa
        have HKL := Lib.hid hkl
        clear hk hfa hba hoa hwa cf zf ca hkl
        go_wp2_with fail
        have HRG := Lib.hid (fun k hk => Fo.range _ _ _ _ rfl HFO.out (nd.kids.getD k 0) (by rw [List.getD_eq_getElem?_getD, List.getElem?_eq_getElem hk]; exact List.getElem_mem hk) : ∀ k, (hk : k < nd.kids.length) → q ≤ nd.kids.getD k 0 ∧ nd.kids.getD k 0 < i)
        have HDI := Lib.hid (Fo.distinct _ _ _ _ rfl HFO.out)
        have HB1 := Lib.hid (fun m hm => by
          obtain ⟨R, -, h⟩ := HTAB.out.root
          rw [h m (HN.out ▸ hm)]
          split <;> omega : ∀ m, m < n → bl.getD m 0 ≤ 1)
        clear hk3 hca
        go_loopw [11] (fun v11 wq => ∃ (k : Nat) (bq : List Nat), v11 = .int .i64 k ∧ k ≤ kl ∧ bq.length = n ∧ (∀ m, bq.getD m 0 = bl.getD m 0 + if m ∈ nd.kids.take k then 1 else 0) ∧ IRow wq (ar + 1) bq ∧ IRow wq (ar + 1 + 1) (fr.set i i) ∧ Only (fun q => q = ar + 1 ∨ q = ar + 1 + 1) wF wq ∧ Only (fun q => q = ar + 1) wa wq) (fun v11 _ => kl - (intOf v11).toNat)
        case atStart => exact ⟨0, bl, rfl, Nat.zero_le _, hbl, fun m => by simp, HBA.out, HFA.out, HOA.out, Only.refl _ _⟩
        case round =>
          obtain ⟨k, bq, rfl, hk, hbq, hcnt, hbw, hfw, how, hoq⟩ := hrel
          have HB := Lib.hid hbw
          have HF := Lib.hid hfw
          have HO := Lib.hid how
          have HOQ := Lib.hid hoq
          have HCT := Lib.hid hcnt
          clear hbw hfw how hoq hcnt
          have hsz := HO.out.size
          by_cases hkk : k < kl
          · have hki : (k : Int) < (kl : Int) := by omega
            have hk' : k < nd.kids.length := HKL.out ▸ hkk
            obtain ⟨g2, hA2, hg2, hck⟩ := HK.out k hk'
            subst hA2
            have hx1 := (HRG.out k hk').2
            have hcnt := HCT.out (nd.kids.getD k 0)
            rw [if_neg (HDI.out k hk')] at hcnt
            have hb1 := HB1.out (nd.kids.getD k 0) (by omega)
            have hck2 := (HOQ.out.cell (p := ⟨g2, k, none⟩) (by have := HOA.out.size; show g2 < _; omega) (by show ¬ g2 = _; omega)).trans hck
            have cb := HB.out.cell (i := nd.kids.getD k 0) (by omega)
            have zb := HB.out.free (nd.kids.getD k 0)
            obtain ⟨x1, hx⟩ : ∃ q, q = nd.kids.getD k 0 := ⟨_, rfl⟩
            obtain ⟨y1, hy⟩ : ∃ q, q = bq.getD (nd.kids.getD k 0) 0 := ⟨_, rfl⟩
            rw [← hy, ← hx] at cb
            rw [← hx] at zb hck2
            rw [← hy] at hcnt
            have HNX := Lib.hid (fun m => by
              rw [List.take_add_one, List.getElem?_eq_getElem hk']
              have hxe : nd.kids[k] = x1 := by rw [hx, List.getD_eq_getElem?_getD, List.getElem?_eq_getElem hk']; rfl
              simp only [Option.toList_some, List.mem_append, List.mem_singleton, hxe]
              have h0 := HCT.out m
              by_cases hm : m = x1
              · subst hm
                rw [List.getD_eq_getElem?_getD, List.getElem?_set_self (by omega), if_pos (.inr rfl), hx]
                simp only [Option.getD_some]
                omega
              · rw [List.getD_eq_getElem?_getD, List.getElem?_set_ne (fun e => hm e.symm), ← List.getD_eq_getElem?_getD, h0]
                simp only [hm, or_false] : ∀ m, (bq.set x1 (y1 + 1)).getD m 0 = bl.getD m 0 + if m ∈ nd.kids.take (k + 1) then 1 else 0)
            have hx1i : x1 < i := by omega
            have hy1 : y1 ≤ 1 := by omega
            have HW := Lib.hid (HB.out.set x1 (y1 + 1))
            have HWF := Lib.hid (HF.out.far (p := ⟨ar + 1, x1, none⟩) (by simp) (natV (y1 + 1)))
            have HWO := Lib.hid (HO.out.setCell (p := ⟨ar + 1, x1, none⟩) (.inl rfl) (natV (y1 + 1)))
            have HWQ := Lib.hid (HOQ.out.setCell (p := ⟨ar + 1, x1, none⟩) rfl (natV (y1 + 1)))
            have hlen : (bq.set x1 (y1 + 1)).length = n := by simp [hbq]
            clear hcnt hx hy hck hk' hb1
            unfold natV at cb hck2
            go_wp2_with fail
            have ey : Value.int .i64 ((y1 : Int) + 1) = natV (y1 + 1) := by simp [natV]
            rw [ey]
            go_roundw
            case rel => exact ⟨k + 1, _, by go_num, by omega, hlen, HNX.out, HW.out, HWF.out, HWO.out, HWQ.out⟩
            case measure => first | (simp only [intOf]; omega) | (go_simp; omega) | omega
          · have hki : ¬ (k : Int) < (kl : Int) := by omega
            obtain rfl : k = kl := by omega
            have HCN := Lib.hid (fun m => by
              have := HCT.out m
              rw [List.take_of_length_le (Nat.le_of_eq HKL.out.symm)] at this
              exact this : ∀ m, bq.getD m 0 = bl.getD m 0 + if m ∈ nd.kids then 1 else 0)
            clear HCT hkk
            go_wp2_with fail
            go_loopw [12, 13] (fun v12 v13 wq => ∃ (j m : Nat), v13 = .int .i64 ((j : Int) - 1) ∧ v12 = natV m ∧ j ≤ k ∧ Hid (Fo N q m (nd.kids.take j)) ∧ wq = wr) (fun _ v13 _ => (intOf v13 + 1).toNat)
            case atStart => exact ⟨k, i, by go_num, rfl, Nat.le_refl _, Lib.hid (by rw [List.take_of_length_le (Nat.le_of_eq HKL.out.symm)]; exact HFO.out), rfl⟩
            case round =>
              obtain ⟨j, mm, rfl, rfl, hj, hfoj, rfl⟩ := hrel
              cases j with
              | zero =>
                have hq0 : mm = q := by
                  have := hfoj.out
                  rw [List.take_zero] at this
                  rcases this.cases' with ⟨e, -⟩ | ⟨_, _, _, _, e, -⟩
                  · exact e.symm
                  · simp at e
                subst hq0
                have cf := HF.out.cell (i := i) (by simp; omega)
                have zf := HF.out.free i
                have HT2 := Lib.hid (HTAB.out.next HND.out HFO.out (by rw [hbq, hbl]) HCN.out)
                have HW := Lib.hid (HF.out.set i mm)
                have HWB := Lib.hid (HB.out.far (p := ⟨ar + 1 + 1, i, none⟩) (by simp) (natV mm))
                have HWO := Lib.hid (HO.out.setCell (p := ⟨ar + 1 + 1, i, none⟩) (.inr rfl) (natV mm))
                clear HF HB HO HOQ HND HFO HCN hfoj HTAB
                go_wp2_with fail
                go_roundw
                case rel => exact ⟨i + 1, _, _, by go_num, by omega, HT2.out, HWB.out, by have := HW.out; rw [List.set_set] at this; exact this, HWO.out⟩
                case measure => first | (simp only [intOf]; omega) | (go_simp; omega) | omega
              | succ j =>
                have hjl : j < nd.kids.length := HKL.out ▸ (show j < k by omega)
                obtain ⟨g2, hA2, hg2, hck⟩ := HK.out j hjl
                subst hA2
                have hx1 := (HRG.out j hjl).2
                have hfo2 := hfoj.out
                rw [List.take_add_one, List.getElem?_eq_getElem hjl] at hfo2
                have hgd : nd.kids.getD j 0 = nd.kids[j] := by rw [List.getD_eq_getElem?_getD, List.getElem?_eq_getElem hjl]; rfl
                rw [hgd] at hck hx1
                obtain ⟨x1, hx⟩ : ∃ q, q = nd.kids[j] := ⟨_, rfl⟩
                rw [← hx] at hck hx1 hfo2
                obtain ⟨m2, hm1, hf3, ht3⟩ : ∃ m2, mm = x1 + 1 ∧ Fo N q m2 (nd.kids.take j) ∧ Tr N m2 x1 := by
                  rcases hfo2.cases' with ⟨-, e⟩ | ⟨m2, x2, ys, e1, e2, e3, e4⟩
                  · simp at e
                  · have e5 := List.append_inj' e2 rfl
                    obtain ⟨e6, e7⟩ := e5
                    simp only [Option.toList_some, List.cons.injEq, and_true] at e7
                    subst e7 e6
                    exact ⟨m2, e1, e3, e4⟩
                subst hm1
                have hm2 := (HTAB.out.start x1 hx1).start_unique ht3
                have hck2 := (HOQ.out.cell (p := ⟨g2, j, none⟩) (by have := HOA.out.size; show g2 < _; omega) (by show ¬ g2 = _; omega)).trans hck
                have cf := HF.out.cell (i := x1) (by simp; omega)
                rw [List.getD_eq_getElem?_getD, List.getElem?_set_ne (by omega), ← List.getD_eq_getElem?_getD, hm2] at cf
                have HF3 := Lib.hid hf3
                have hji : (0 : Int) ≤ (j : Int) := by omega
                have ej : ((j + 1 : Nat) : Int) - 1 = (j : Int) := by omega
                have ex : ((x1 + 1 : Nat) : Int) - 1 = (x1 : Int) := by omega
                rw [ej]
                unfold natV at cf hck2 ⊢
                clear hf3 ht3 hfo2 hck hm2 hx hgd hfoj
                go_wp2_with fail
                go_roundw
                case rel => exact ⟨j, m2, rfl, rfl, by omega, HF3, by first | rfl | trivial⟩
                case measure => first | (simp only [intOf]; omega) | (go_simp; omega) | omega
      · have hii : ¬ (i : Int) < (n : Int) := by omega
        obtain rfl : i = n := by omega
        obtain ⟨f1, f2, f3⟩ := (show Tabs N N.length bl fr from HN.out ▸ HTAB.out).fin HT.out (HN.out ▸ HX.out)
        have hx := HX.out
        have hkind : ∃ nd, N[x]? = some nd ∧ nd.kind = 1 := by
          have hm : m.length = x := by
            have := congrArg List.length HL.out
            rw [← HN.out, hx] at this
            simp at this
            omega
          rw [HL.out]
          refine ⟨_, by rw [List.getElem?_append_right (by omega), hm, Nat.sub_self]; rfl, rfl⟩
        obtain ⟨nd, hnd, hk1⟩ := hkind
        have hk3 := ((HRF.out.keep (by omega) HO.out (fun q hq e => by omega)).node hnd).1
        rw [hk1] at hk3
        have c1 := HB.out.cell (i := x) (by omega)
        have c2 := HF.out.cell (i := x) (by omega)
        rw [f2] at c1
        rw [f3] at c2
        have HF1 := Lib.hid f1
        have HBEL := Lib.hid (HO.out.below (HPF.out.below (Below.refl _ w) (Nat.le_refl _) (fun _ e => e.elim)) HPF.out.size (fun q e => by have := HAR.out; rcases e with rfl | rfl <;> omega))
        clear HTAB f1 f2 f3 hnd hk1 HX HN HL HT
        subst hx
        go_wp2_with fail
        go_loopw [14] (fun v14 wq => ∃ m : Nat, v14 = .int .i64 m ∧ m ≤ x ∧ wq = wr) (fun v14 _ => x - (intOf v14).toNat)
        case atStart => exact ⟨0, rfl, Nat.zero_le _, rfl⟩
        case round =>
          obtain ⟨m, rfl, hm, rfl⟩ := hrel
          by_cases hmx : m < x
          · have hmi : (m : Int) < (x : Int) := by omega
            have cm := HB.out.cell (i := m) (by omega)
            rw [HF1.out m hmx] at cm
            unfold natV at cm c1 c2
            go_wp2_with fail
            go_roundw
            case rel => exact ⟨m + 1, by go_num, by omega, by first | rfl | trivial⟩
            case measure => first | (simp only [intOf]; omega) | (go_simp; omega) | omega
          · have hmi : ¬ (m : Int) < (x : Int) := by omega
            unfold natV at c1 c2
            go_wp2_with fail
            exact ⟨rfl, _, by simp [results, Try.results3, go_sem], rfl, HBEL.out⟩
end Go.Proofs.Ytoggcdldoinbnaa
