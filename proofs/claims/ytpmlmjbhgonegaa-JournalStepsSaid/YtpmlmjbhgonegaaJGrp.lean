/- The law's group: which puts are one. -/
import Derived.Test.YtpmlmjbhgonegaaJHas
import Derived.Test.YtpmlmjbhgonegaaJShownA
namespace Go.Proofs.Ytpmlmjbhgonegaa
open Go.RowKit
set_option linter.unusedVariables false

theorem mayOne_not {D : DK} {at_ b : Int} {had : List Int} {n : Nat} (h : b ∈ had ∨ (at_ ≤ b ∧ b < at_ + 199) ∨ b < 0 ∨ D.len ≤ b ∨ n ≠ 64) : jMayOne D at_ had b n = false := by
  unfold jMayOne
  simp only [Bool.not_eq_false', Bool.or_eq_true, decide_eq_true_eq]
  rcases h with h | h | h | h | h
  · exact .inl (.inl (.inl (.inl h)))
  · exact .inl (.inl (.inl (.inr h)))
  · exact .inl (.inl (.inr h))
  · exact .inl (.inr h)
  · exact .inr h
theorem mayOne_yes {D : DK} {at_ b : Int} {had : List Int} {n : Nat} (h : b ∉ had ∧ ¬ (at_ ≤ b ∧ b < at_ + 199) ∧ 0 ≤ b ∧ b < D.len ∧ n = 64) : jMayOne D at_ had b n = true := by
  unfold jMayOne
  obtain ⟨h1, h2, h3, h4, h5⟩ := h
  simp only [Bool.not_eq_true', Bool.or_eq_false_iff, decide_eq_false_iff_not]
  exact ⟨⟨⟨⟨h1, h2⟩, by omega⟩, by omega⟩, by omega⟩
theorem mayTo_le {D : DK} {at_ : Int} {l : List (Int × List UInt8)} (h : 192 < l.length) : jMay D at_ l = false := by
  unfold jMay
  rw [decide_eq_false (by omega), Bool.and_false]
theorem mayTo_all {D : DK} {at_ : Int} {l : List (Int × List UInt8)} (h : jMayTo D at_ l l.length = true) (h2 : l.length ≤ 192) : jMay D at_ l = true := by
  unfold jMay
  rw [h, decide_eq_true h2]; rfl

set_option maxHeartbeats 2000000 in
theorem law_group_calls (T : Nat → Prop) (w : World) (x : Option Addr) (l : List (Int × List UInt8)) (n c : Nat) (hn : n = l.length) (hmax : n ≤ 9223372036854775807) (hP : PutsAt T w x l) (D : DK) (at_ len : Int) (hlen : D.len = len) (ha : 0 ≤ at_) (ha2 : at_ ≤ 4096) (hl : 0 ≤ len) (hl2 : len ≤ 4096) :
    Calls Try.prog 22 #[.slice x n c, .int .i64 at_, .int .i64 len] w fun e w' => e = .returned (.bool (jMay D at_ l)) ∧ Only (fun _ => False) w w' := by
  have HP := Lib.hid hP
  have HN := Lib.hid hn
  have HD := Lib.hid hlen
  have hw1 : IntKind.i64.wrap (at_ + 199) = at_ + 199 := IntWalk.i64_in _ (by omega)
  clear hP hn hlen
  go_enter Try.func22, Try.ntmps22
  by_cases hbig : 192 < n
  · have hbi : (192 : Int) < (n : Int) := by omega
    have HM := Lib.hid (mayTo_le (D := D) (at_ := at_) (l := l) (by rw [← HN.out]; exact hbig))
    clear hbig
    go_wp2_with fail
    go_ret
    exact ⟨by rw [HM.out]; rfl, Only.refl _ _⟩
  · have hbi : ¬ (192 : Int) < (n : Int) := by omega
    go_wp2_with fail
    go_loopw [7] (fun i wr => ∃ k : Nat, i = .int .i64 k ∧ k ≤ n ∧ Only (fun _ => False) w wr ∧ jMayTo D at_ l k = true) (fun i _ => n - (intOf i).toNat)
    case atStart => exact ⟨0, rfl, Nat.zero_le _, Only.refl _ _, by rfl⟩
    case round =>
      obtain ⟨k, rfl, hk, ho, hm⟩ := hrel
      have O := Lib.hid ho
      have HM := Lib.hid hm
      clear ho hm
      by_cases hlt : k < n
      · have hki : (k : Int) < (n : Int) := by omega
        obtain ⟨⟨b, bs⟩, hs⟩ : ∃ y, l[k]? = some y := ⟨_, List.getElem?_eq_getElem (by rw [← HN.out]; exact hlt)⟩
        obtain ⟨ad, a, ca, rfl, c0, c1, hsl, -, -⟩ := (HP.out.only O.out (fun _ e => e.elim)) k b bs hs
        have HS := Lib.hid hs
        have hbm : bs.length ≤ 9223372036854775807 ∨ 9223372036854775807 < bs.length := by omega
        clear hs hsl
        go_upto_region 7 with fail
        have o5 := O.out.alloc (.cells #[.int .i64 b, .slice a bs.length ca] 44)
        have hp5 := heap_alloc_new wr (.cells #[.int .i64 b, .slice a bs.length ca] 44)
        have O5 := Lib.hid o5
        have P5 := Lib.hid hp5
        clear c0 c1 o5 hp5 O
        generalize wr.alloc (.cells #[.int .i64 b, .slice a bs.length ca] 44) = w5 at *
        generalize wr.heap.size = pb at *
        have d0 : w5.cell? ⟨pb, 0, none⟩ = some (.int .i64 b) := (cellOf P5.out 0).trans rfl
        have d1 : w5.cell? ⟨pb, 1, none⟩ = some (.slice a bs.length ca) := (cellOf P5.out 1).trans rfl
        obtain ⟨nb, hnb⟩ : ∃ q, q = bs.length := ⟨_, rfl⟩
        rw [← hnb] at d1
        have HNB := Lib.hid hnb
        have hnbi : (nb : Int) = 64 ↔ nb = 64 := by omega
        clear hnb
        have hcase : b < 0 ∨ (0 ≤ b ∧ ¬ b < 0 ∧ len ≤ b) ∨ (0 ≤ b ∧ ¬ b < 0 ∧ ¬ len ≤ b ∧ at_ ≤ b ∧ b < at_ + 199) ∨ (0 ≤ b ∧ ¬ b < 0 ∧ ¬ len ≤ b ∧ at_ ≤ b ∧ ¬ b < at_ + 199 ∧ ¬ (nb : Int) = 64) ∨ (0 ≤ b ∧ ¬ b < 0 ∧ ¬ len ≤ b ∧ ¬ at_ ≤ b ∧ ¬ (nb : Int) = 64) ∨ (0 ≤ b ∧ ¬ b < 0 ∧ ¬ len ≤ b ∧ at_ ≤ b ∧ ¬ b < at_ + 199 ∧ (nb : Int) = 64) ∨ (0 ≤ b ∧ ¬ b < 0 ∧ ¬ len ≤ b ∧ ¬ at_ ≤ b ∧ (nb : Int) = 64) := by omega
        clear hnbi
        rcases hcase with h1 | ⟨h1, h2, h3⟩ | ⟨h1, h2, h3, h4, h5⟩ | ⟨h1, h2, h3, h4, h5, h6⟩ | ⟨h1, h2, h3, h4, h6⟩ | ⟨h1, h2, h3, h4, h5, h6⟩ | ⟨h1, h2, h3, h4, h6⟩
        · have hbad := jMayTo_not (at_ := at_) (k := k + 1) (by rw [← HN.out]; exact hlt) (by rw [jMayTo_step HS.out HM.out]; exact mayOne_not (.inr (.inr (.inl h1))))
          have HBAD := Lib.hid hbad
          clear hbad
          go_wp2_with fail
          go_ret
          exact ⟨by rw [HBAD.out]; rfl, O5.out⟩
        · have hbad := jMayTo_not (at_ := at_) (k := k + 1) (by rw [← HN.out]; exact hlt) (by rw [jMayTo_step HS.out HM.out]; exact mayOne_not (.inr (.inr (.inr (.inl (by rw [HD.out]; exact h3))))))
          have HBAD := Lib.hid hbad
          clear hbad
          go_wp2_with fail
          go_ret
          exact ⟨by rw [HBAD.out]; rfl, O5.out⟩
        · have hbad := jMayTo_not (at_ := at_) (k := k + 1) (by rw [← HN.out]; exact hlt) (by rw [jMayTo_step HS.out HM.out]; exact mayOne_not (.inr (.inl ⟨h4, h5⟩)))
          have HBAD := Lib.hid hbad
          clear hbad
          go_wp2_with fail
          go_ret
          exact ⟨by rw [HBAD.out]; rfl, O5.out⟩
        · have hbad := jMayTo_not (at_ := at_) (k := k + 1) (by rw [← HN.out]; exact hlt) (by rw [jMayTo_step HS.out HM.out]; exact mayOne_not (.inr (.inr (.inr (.inr (by have := HNB.out; omega))))))
          have HBAD := Lib.hid hbad
          clear hbad
          go_wp2_with fail
          go_ret
          exact ⟨by rw [HBAD.out]; rfl, O5.out⟩
        · have hbad := jMayTo_not (at_ := at_) (k := k + 1) (by rw [← HN.out]; exact hlt) (by rw [jMayTo_step HS.out HM.out]; exact mayOne_not (.inr (.inr (.inr (.inr (by have := HNB.out; omega))))))
          have HBAD := Lib.hid hbad
          clear hbad
          go_wp2_with fail
          go_ret
          exact ⟨by rw [HBAD.out]; rfl, O5.out⟩
        · go_wp2_with fail
          go_loopw [9] (fun i wq => ∃ j : Nat, i = .int .i64 j ∧ j ≤ k ∧ Only (fun _ => False) w5 wq ∧ ∀ q, q < j → (slot l q).1 ≠ b) (fun i _ => k - (intOf i).toNat)
          case atStart => exact ⟨0, rfl, Nat.zero_le _, Only.refl _ _, fun q hq => by omega⟩
          case round =>
            obtain ⟨j, rfl, hj, hoq, hne⟩ := hrel
            have HNE := Lib.hid hne
            have OQ := Lib.hid hoq
            clear hne hoq
            by_cases hjk : j < k
            · have hjki : (j : Int) < (k : Int) := by omega
              have hjn : j < n := by omega
              obtain ⟨⟨b2, bs2⟩, hs2⟩ : ∃ y, l[j]? = some y := ⟨_, List.getElem?_eq_getElem (by rw [← HN.out]; omega)⟩
              have C2 := Lib.hid (show ∀ w', Only (fun _ => False) wr.drew w' → w'.cell? (ad.add (j * 2)) = some (.int .i64 b2) from fun w' hr => by
                obtain ⟨ad2, a2, ca2, e2, c2, -, -, -, -⟩ := HP.out.only ((O5.out.trans OQ.out).drew.trans hr) (fun _ e => e.elim) j b2 bs2 hs2
                cases e2
                exact c2)
              have D0 := Lib.hid (show ∀ w', Only (fun _ => False) wr.drew w' → w'.cell? ⟨pb, 0, none⟩ = some (.int .i64 b) from fun w' hr => (cellOf (hr.keeps (w := wr.drew) (OQ.out.keeps P5.out (fun e => e)) (fun e => e)) 0).trans rfl)
              have HS2 := Lib.hid hs2
              clear hs2
              by_cases he : b2 = b
              · have hbad := jMayTo_not (at_ := at_) (k := k + 1) (by rw [← HN.out]; exact hlt) (by rw [jMayTo_step HS.out HM.out]; exact mayOne_not (.inl (List.mem_map.2 ⟨(b2, bs2), List.mem_iff_getElem?.2 ⟨j, by rw [List.getElem?_take, if_pos hjk]; exact HS2.out⟩, he⟩)))
                have HBAD := Lib.hid hbad
                clear hbad
                subst he
                go_wp2_with fail
                refine wp_region_grow (Only (fun _ => False)) (fun | _ => none) (by kernel_rfl) (by kernel_rfl) (Only.refl _) (fun _ _ _ => Only.trans) ?_ ?_
                · intro i V hV
                  cases hV
                simp only [List.zipIdx_cons, List.zipIdx_nil, Nat.zero_add, Nat.reduceAdd]
                iterate 4 (refine grow_det ?_ rfl (fun w' => ?_) ?_; rotate_left 1; (unfold Runs; go_simp; rfl); try simp only [Act.put, List.setIfInBounds_toArray, List.set_cons_zero, List.set_cons_succ])
                refine grow_read (.int .i64 b2) rfl (fun w' hr hf => ?_) ?_
                · have h1 := C2.out w' hr
                  unfold Runs
                  go_simp
                simp only [Act.put, List.setIfInBounds_toArray, List.set_cons_zero, List.set_cons_succ]
                iterate 1 (refine grow_det ?_ rfl (fun w' => ?_) ?_; rotate_left 1; (unfold Runs; go_simp; rfl); try simp only [Act.put, List.setIfInBounds_toArray, List.set_cons_zero, List.set_cons_succ])
                refine grow_read (.int .i64 b2) rfl (fun w' hr hf => ?_) ?_
                · have h1 := D0.out w' hr
                  unfold Runs
                  go_simp
                simp only [Act.put, List.setIfInBounds_toArray, List.set_cons_zero, List.set_cons_succ]
                iterate 1 (refine grow_det ?_ rfl (fun w' => ?_) ?_; rotate_left 1; (unfold Runs; go_simp; rfl); try simp only [Act.put, List.setIfInBounds_toArray, List.set_cons_zero, List.set_cons_succ])
                refine grow_end (fun w7 hr hf => ?_)
                clear hf
                have O7 := Lib.hid (OQ.out.drew.trans hr)
                clear hr C2 D0 OQ
                go_wp2_with fail
                go_ret
                exact ⟨by rw [HBAD.out]; rfl, O5.out.trans O7.out⟩
              · have HE := Lib.hid he
                go_wp2_with fail
                refine wp_region_grow (Only (fun _ => False)) (fun | _ => none) (by kernel_rfl) (by kernel_rfl) (Only.refl _) (fun _ _ _ => Only.trans) ?_ ?_
                · intro i V hV
                  cases hV
                simp only [List.zipIdx_cons, List.zipIdx_nil, Nat.zero_add, Nat.reduceAdd]
                iterate 4 (refine grow_det ?_ rfl (fun w' => ?_) ?_; rotate_left 1; (unfold Runs; go_simp; rfl); try simp only [Act.put, List.setIfInBounds_toArray, List.set_cons_zero, List.set_cons_succ])
                refine grow_read (.int .i64 b2) rfl (fun w' hr hf => ?_) ?_
                · have h1 := C2.out w' hr
                  unfold Runs
                  go_simp
                simp only [Act.put, List.setIfInBounds_toArray, List.set_cons_zero, List.set_cons_succ]
                iterate 1 (refine grow_det ?_ rfl (fun w' => ?_) ?_; rotate_left 1; (unfold Runs; go_simp; rfl); try simp only [Act.put, List.setIfInBounds_toArray, List.set_cons_zero, List.set_cons_succ])
                refine grow_read (.int .i64 b) rfl (fun w' hr hf => ?_) ?_
                · have h1 := D0.out w' hr
                  unfold Runs
                  go_simp
                simp only [Act.put, List.setIfInBounds_toArray, List.set_cons_zero, List.set_cons_succ]
                refine grow_read (.bool false) rfl (fun w' hr hf => ?_) ?_
                · have h1 := he
                  unfold Runs
                  go_simp
                simp only [Act.put, List.setIfInBounds_toArray, List.set_cons_zero, List.set_cons_succ]
                refine grow_end (fun w7 hr hf => ?_)
                clear hf
                have O7 := Lib.hid (OQ.out.drew.trans hr)
                clear hr C2 D0 OQ
                go_wp2_with fail
                go_roundw
                case rel => exact ⟨j + 1, by go_num, by omega, O7.out, fun q hq => by
                  rcases (show q < j ∨ q = j by omega) with h | rfl
                  · exact HNE.out q h
                  · rw [slot_some HS2.out]; exact HE.out⟩
                case measure => simp [intOf]; omega
            · obtain rfl : j = k := by omega
              have hjki : ¬ (j : Int) < (j : Int) := by omega
              have hyes := (jMayTo_step HS.out HM.out).trans (mayOne_yes ⟨fun hin => by
                obtain ⟨⟨b3, bs3⟩, h3, e3⟩ := List.mem_map.1 hin
                obtain ⟨q, hq⟩ := List.mem_iff_getElem?.1 h3
                have hqj : q < j := by
                  rcases Nat.lt_or_ge q j with h | h
                  · exact h
                  · rw [List.getElem?_take, if_neg (by omega)] at hq; cases hq
                rw [List.getElem?_take, if_pos hqj] at hq
                have := HNE.out q hqj
                rw [slot_some hq] at this
                exact this e3, by omega, by omega, by rw [HD.out]; omega, by have := HNB.out; omega⟩)
              have HY := Lib.hid hyes
              clear hyes
              go_wp2_with fail
              go_roundw
              case rel => exact ⟨j + 1, by go_num, by omega, O5.out.trans OQ.out, HY.out⟩
              case measure => simp [intOf]; omega
        · go_wp2_with fail
          go_loopw [9] (fun i wq => ∃ j : Nat, i = .int .i64 j ∧ j ≤ k ∧ Only (fun _ => False) w5 wq ∧ ∀ q, q < j → (slot l q).1 ≠ b) (fun i _ => k - (intOf i).toNat)
          case atStart => exact ⟨0, rfl, Nat.zero_le _, Only.refl _ _, fun q hq => by omega⟩
          case round =>
            obtain ⟨j, rfl, hj, hoq, hne⟩ := hrel
            have HNE := Lib.hid hne
            have OQ := Lib.hid hoq
            clear hne hoq
            by_cases hjk : j < k
            · have hjki : (j : Int) < (k : Int) := by omega
              have hjn : j < n := by omega
              obtain ⟨⟨b2, bs2⟩, hs2⟩ : ∃ y, l[j]? = some y := ⟨_, List.getElem?_eq_getElem (by rw [← HN.out]; omega)⟩
              have C2 := Lib.hid (show ∀ w', Only (fun _ => False) wr.drew w' → w'.cell? (ad.add (j * 2)) = some (.int .i64 b2) from fun w' hr => by
                obtain ⟨ad2, a2, ca2, e2, c2, -, -, -, -⟩ := HP.out.only ((O5.out.trans OQ.out).drew.trans hr) (fun _ e => e.elim) j b2 bs2 hs2
                cases e2
                exact c2)
              have D0 := Lib.hid (show ∀ w', Only (fun _ => False) wr.drew w' → w'.cell? ⟨pb, 0, none⟩ = some (.int .i64 b) from fun w' hr => (cellOf (hr.keeps (w := wr.drew) (OQ.out.keeps P5.out (fun e => e)) (fun e => e)) 0).trans rfl)
              have HS2 := Lib.hid hs2
              clear hs2
              by_cases he : b2 = b
              · have hbad := jMayTo_not (at_ := at_) (k := k + 1) (by rw [← HN.out]; exact hlt) (by rw [jMayTo_step HS.out HM.out]; exact mayOne_not (.inl (List.mem_map.2 ⟨(b2, bs2), List.mem_iff_getElem?.2 ⟨j, by rw [List.getElem?_take, if_pos hjk]; exact HS2.out⟩, he⟩)))
                have HBAD := Lib.hid hbad
                clear hbad
                subst he
                go_wp2_with fail
                refine wp_region_grow (Only (fun _ => False)) (fun | _ => none) (by kernel_rfl) (by kernel_rfl) (Only.refl _) (fun _ _ _ => Only.trans) ?_ ?_
                · intro i V hV
                  cases hV
                simp only [List.zipIdx_cons, List.zipIdx_nil, Nat.zero_add, Nat.reduceAdd]
                iterate 4 (refine grow_det ?_ rfl (fun w' => ?_) ?_; rotate_left 1; (unfold Runs; go_simp; rfl); try simp only [Act.put, List.setIfInBounds_toArray, List.set_cons_zero, List.set_cons_succ])
                refine grow_read (.int .i64 b2) rfl (fun w' hr hf => ?_) ?_
                · have h1 := C2.out w' hr
                  unfold Runs
                  go_simp
                simp only [Act.put, List.setIfInBounds_toArray, List.set_cons_zero, List.set_cons_succ]
                iterate 1 (refine grow_det ?_ rfl (fun w' => ?_) ?_; rotate_left 1; (unfold Runs; go_simp; rfl); try simp only [Act.put, List.setIfInBounds_toArray, List.set_cons_zero, List.set_cons_succ])
                refine grow_read (.int .i64 b2) rfl (fun w' hr hf => ?_) ?_
                · have h1 := D0.out w' hr
                  unfold Runs
                  go_simp
                simp only [Act.put, List.setIfInBounds_toArray, List.set_cons_zero, List.set_cons_succ]
                iterate 1 (refine grow_det ?_ rfl (fun w' => ?_) ?_; rotate_left 1; (unfold Runs; go_simp; rfl); try simp only [Act.put, List.setIfInBounds_toArray, List.set_cons_zero, List.set_cons_succ])
                refine grow_end (fun w7 hr hf => ?_)
                clear hf
                have O7 := Lib.hid (OQ.out.drew.trans hr)
                clear hr C2 D0 OQ
                go_wp2_with fail
                go_ret
                exact ⟨by rw [HBAD.out]; rfl, O5.out.trans O7.out⟩
              · have HE := Lib.hid he
                go_wp2_with fail
                refine wp_region_grow (Only (fun _ => False)) (fun | _ => none) (by kernel_rfl) (by kernel_rfl) (Only.refl _) (fun _ _ _ => Only.trans) ?_ ?_
                · intro i V hV
                  cases hV
                simp only [List.zipIdx_cons, List.zipIdx_nil, Nat.zero_add, Nat.reduceAdd]
                iterate 4 (refine grow_det ?_ rfl (fun w' => ?_) ?_; rotate_left 1; (unfold Runs; go_simp; rfl); try simp only [Act.put, List.setIfInBounds_toArray, List.set_cons_zero, List.set_cons_succ])
                refine grow_read (.int .i64 b2) rfl (fun w' hr hf => ?_) ?_
                · have h1 := C2.out w' hr
                  unfold Runs
                  go_simp
                simp only [Act.put, List.setIfInBounds_toArray, List.set_cons_zero, List.set_cons_succ]
                iterate 1 (refine grow_det ?_ rfl (fun w' => ?_) ?_; rotate_left 1; (unfold Runs; go_simp; rfl); try simp only [Act.put, List.setIfInBounds_toArray, List.set_cons_zero, List.set_cons_succ])
                refine grow_read (.int .i64 b) rfl (fun w' hr hf => ?_) ?_
                · have h1 := D0.out w' hr
                  unfold Runs
                  go_simp
                simp only [Act.put, List.setIfInBounds_toArray, List.set_cons_zero, List.set_cons_succ]
                refine grow_read (.bool false) rfl (fun w' hr hf => ?_) ?_
                · have h1 := he
                  unfold Runs
                  go_simp
                simp only [Act.put, List.setIfInBounds_toArray, List.set_cons_zero, List.set_cons_succ]
                refine grow_end (fun w7 hr hf => ?_)
                clear hf
                have O7 := Lib.hid (OQ.out.drew.trans hr)
                clear hr C2 D0 OQ
                go_wp2_with fail
                go_roundw
                case rel => exact ⟨j + 1, by go_num, by omega, O7.out, fun q hq => by
                  rcases (show q < j ∨ q = j by omega) with h | rfl
                  · exact HNE.out q h
                  · rw [slot_some HS2.out]; exact HE.out⟩
                case measure => simp [intOf]; omega
            · obtain rfl : j = k := by omega
              have hjki : ¬ (j : Int) < (j : Int) := by omega
              have hyes := (jMayTo_step HS.out HM.out).trans (mayOne_yes ⟨fun hin => by
                obtain ⟨⟨b3, bs3⟩, h3, e3⟩ := List.mem_map.1 hin
                obtain ⟨q, hq⟩ := List.mem_iff_getElem?.1 h3
                have hqj : q < j := by
                  rcases Nat.lt_or_ge q j with h | h
                  · exact h
                  · rw [List.getElem?_take, if_neg (by omega)] at hq; cases hq
                rw [List.getElem?_take, if_pos hqj] at hq
                have := HNE.out q hqj
                rw [slot_some hq] at this
                exact this e3, by omega, by omega, by rw [HD.out]; omega, by have := HNB.out; omega⟩)
              have HY := Lib.hid hyes
              clear hyes
              go_wp2_with fail
              go_roundw
              case rel => exact ⟨j + 1, by go_num, by omega, O5.out.trans OQ.out, HY.out⟩
              case measure => simp [intOf]; omega
      · have hki : ¬ (k : Int) < (n : Int) := by omega
        obtain rfl : k = n := by omega
        have hfin := mayTo_all (D := D) (at_ := at_) (l := l) (by rw [← HN.out]; exact HM.out) (by rw [← HN.out]; omega)
        have HF := Lib.hid hfin
        clear hfin
        go_wp2_with fail
        go_ret
        exact ⟨by rw [HF.out]; rfl, O.out⟩
end Go.Proofs.Ytpmlmjbhgonegaa
