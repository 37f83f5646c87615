/- SyntaxBeginnings' walk: where words are refused. -/
import Derived.Test.YtoggcdldoinbnaaSynZ
namespace Go.Proofs.Ytoggcdldoinbnaa
open Go.RowKit
open syn (Tok Nd PS)
set_option linter.unusedVariables false
set_option linter.unusedSimpArgs false

set_option maxRecDepth 20000 in
set_option maxHeartbeats 4000000 in
theorem begin_walk (A0 : Option Addr) (c0 : Nat) (x0 : List W3) (A1 : Option Addr) (c1 : Nat) (x1 : List W3) (w : World) (h0 : WRow w.heap.size w A0 x0) (HA0 : A0 = none → c0 = 0) (HA1 : A1 = none → c1 = 0) (k0 : x0.length ≤ c0) (h1 : WRow w.heap.size w A1 x1) (b0 : x0.length ≤ 1048576) (b1 : x1.length ≤ 1048576) :
    Calls Try.prog 4 #[.slice A0 x0.length c0, .slice A1 x1.length c1] w fun e w' => e = .returned (.bool true) ∧ Below w.heap.size w w' := by
  obtain ⟨K, hK⟩ : ∃ K, K = x0.length + x1.length + 2 := ⟨_, rfl⟩
  go_enter Try.func4, Try.ntmps4
  go_wp2_with fail
  refine (shown_calls w).mono ?_
  rintro e w1 ⟨rfl, o1⟩
  go_wp2_with fail
  have hl0 : (x0.map tok3).length = x0.length := List.length_map ..
  have hw1 := (h0.keep (Nat.le_refl _) o1 (fun _ _ e => e)).words
  have pc := parse_calls (a := A0) (l := x0.map tok3) (w := w1) (c := c0) (K := K) (by omega) (lo := w1.heap.size) (fun i k t hi => by
    obtain ⟨x, q, e1, e2, e3⟩ := hw1 i k t hi
    exact ⟨x, q, e1, Nat.lt_of_lt_of_le e2 o1.size, e3⟩) rfl (by omega)
  rw [hl0] at pc
  refine pc.mono ?_
  rintro e w2 ⟨nv, rfl, ht, o2⟩
  clear pc
  have p2 := o1.trans o2
  obtain ⟨N1, d1, rfl⟩ := ht.slice
  obtain ⟨hc3, hz3⟩ := arena_new w2 (.slice none 0 0) 25
  rcases parse_three K (x0.map tok3) with hp | ⟨p, h4, hall, hp⟩ | ⟨x, s, h4, hall, hp, h1024⟩
  · rw [hp]
    have HB := Lib.hid ((p2.alloc (.cells #[.slice N1 0 d1] 25)).below (Below.refl _ _) (Nat.le_refl _) (fun _ e => e.elim))
    clear ht p2 hp
    go_wp2_with fail
    exact ⟨rfl, _, by simp [results, Try.results4, go_sem], rfl, HB.out⟩
  · rw [hp]
    have hpl := syn.all_bound hall
    rw [hl0] at hpl h4
    have oA := p2.alloc (.cells #[.slice N1 0 d1] 25)
    have HB := Lib.hid (oA.below (Below.refl _ _) (Nat.le_refl _) (fun _ e => e.elim))
    have hpi : (p : Int) ≤ (x0.length : Int) := by omega
    by_cases hbig : 4096 < x0.length + x1.length
    · have hbi : (4096 : Int) < (x0.length : Int) + (x1.length : Int) := by omega
      clear ht p2 hp
      go_wp2_with fail
      exact ⟨rfl, _, by simp [results, Try.results4, go_sem], rfl, HB.out⟩
    · have hbi : ¬ (4096 : Int) < (x0.length : Int) + (x1.length : Int) := by omega
      by_cases hend : p = x0.length
      · have hei : (p : Int) = (x0.length : Int) := by omega
        clear ht p2 hp
        go_wp2_with fail
        exact ⟨rfl, _, by simp [results, Try.results4, go_sem], rfl, HB.out⟩
      · have hei : ¬ (p : Int) = (x0.length : Int) := by omega
        have hpl2 : p < x0.length := by omega
        have HALL := Lib.hid hall
        have H0 := Lib.hid h0
        have H1 := Lib.hid h1
        have OA := Lib.hid oA
        clear ht p2 hp hall h0 h1 oA hw1
        obtain ⟨wA, hwA⟩ : ∃ q, q = w2.alloc (.cells #[.slice N1 0 d1] 25) := ⟨_, rfl⟩
        have HWA := Lib.hid hwA
        have HLP := Lib.hid (show p + 1 = (x0.take (p + 1)).length by rw [List.length_take]; omega)
        have htl : (x0.take (p + 1)).length = p + 1 := by rw [List.length_take]; omega
        have HL0 := Lib.hid (show 0 < (x0.take (p + 1)).length ∨ 0 < ([] : List W3).length from .inl (by omega))
        have HL1 := Lib.hid (show ([] : List W3).length + (x0.take (p + 1)).length ≤ 70000 by rw [htl]; simp; omega)
        have HL2 := Lib.hid (show 0 < x1.length ∨ 0 < (([] : List W3) ++ x0.take (p + 1)).length from .inr (by rw [List.nil_append]; omega))
        have HL3 := Lib.hid (show (([] : List W3) ++ x0.take (p + 1)).length + x1.length ≤ 70000 by rw [List.nil_append]; omega)
        clear htl
        have hE := own_empty (lo := w.heap.size) wA (hwA ▸ OA.out.size)
        have HE := Lib.hid hE
        have OE := Lib.hid ((hwA ▸ OA.out : Only (fun _ => False) w wA).alloc (.cells #[] 37))
        have HSA := Lib.hid (hwA ▸ OA.out.size : w.heap.size ≤ wA.heap.size)
        clear hE hwA
        go_upto_region 9 with fail
        rw [← HWA.out]
        go_wp2_with (first | (at_builtin; refine wpList_words (v := .slice (some ⟨wA.heap.size, 0, none⟩) 0 0) rfl (.tmp 58) (.tmp 62) rfl HLP.out rfl rfl HE.out ((H0.out.take (p + 1)).keep (Nat.le_refl _) OE.out (fun _ _ e => e)) HL0.out HL1.out OE.out.size HA0 ?_; intro v3 w3 hown3 hgr3; have O3 := Lib.hid (OE.out.grown hgr3 (fun q e => .inr (by injection e with e; subst e; exact HSA.out))); clear hgr3) | (at_builtin; refine wpList_words (v := v3) rfl (.tmp 63) (.tmp 64) rfl rfl rfl rfl hown3 (H1.out.keep (Nat.le_refl _) O3.out (fun _ _ e => e)) HL2.out HL3.out O3.out.size HA1 ?_; intro v4 w4 hown4 hgr4))
        have o4 := O3.out.grown hgr4 (fun q e => .inr (Go.Proofs.YtoggcdldoinbnaaW.PrintWords.own_base hown3 q e))
        obtain ⟨A4, c4, rfl, hr4⟩ := WRow.of_own hown4
        obtain ⟨zs, hzs⟩ : ∃ q, q = ([] : List W3) ++ x0.take (p + 1) ++ x1 := ⟨_, rfl⟩
        have hzl : zs.length ≤ x0.length + x1.length := by rw [hzs]; simp; omega
        have hz4 : (zs.map tok3).length = zs.length := List.length_map ..
        rw [← hzs] at hr4 ⊢
        have hbz : syn.all K K (zs.map tok3) syn.start = .bad p := by
          refine syn.all_behind HALL.out (fun i hi => ?_)
          rw [hzs, List.nil_append, List.getElem?_map, List.getElem?_map, List.getElem?_append_left (by rw [List.length_take]; omega), List.getElem?_take, if_pos (by omega)]
        have hpz : syn.parse K K (zs.map tok3) = ([], p, 120) := by
          unfold syn.parse
          rw [if_neg (by omega), hbz]
        have pc := parse_calls (a := A4) (l := zs.map tok3) (w := w4) (c := c4) (K := K) (by omega) hr4.words rfl (by omega)
        rw [hz4, hpz] at pc
        refine pc.mono ?_
        clear pc hpz hbz hr4 hown4 hown3 hgr4 hzs hz4 hzl
        rintro e w5 ⟨nv5, rfl, ht5, o5⟩
        obtain ⟨N5, d5, rfl⟩ := ht5.slice
        obtain ⟨hc5, hz5⟩ := arena_new w5 (.slice none 0 0) 25
        have O5 := Lib.hid (o4.trans o5)
        clear o4 o5 ht5
        go_wp2_with fail
        have o6 := O5.out.alloc (.cells #[.slice N5 0 d5] 25)
        have htl2 : (x0.take p).length = p := by rw [List.length_take]; omega
        have htl3 : ((x0.take p).map tok3).length = p := by rw [List.length_map, htl2]
        have hw6 := ((H0.out.take p).keep (Nat.le_refl _) o6 (fun _ _ e => e)).words
        have pc := parse_calls (a := A0) (l := (x0.take p).map tok3) (w := w5.alloc (.cells #[.slice N5 0 d5] 25)) (c := c0) (K := K) (by omega) (lo := (w5.alloc (.cells #[.slice N5 0 d5] 25)).heap.size) (fun i k t hi => by
          obtain ⟨x, q, e1, e2, e3⟩ := hw6 i k t hi
          exact ⟨x, q, e1, Nat.lt_of_lt_of_le e2 o6.size, e3⟩) rfl (by omega)
        rw [htl3] at pc
        refine pc.mono ?_
        clear pc hw6
        rintro e w7 ⟨nv7, rfl, ht7, o7⟩
        obtain ⟨N7, d7, rfl⟩ := ht7.slice
        obtain ⟨hc7, hz7⟩ := arena_new w7 (.slice none 0 0) 25
        have hout : syn.parse K K ((x0.take p).map tok3) = ([], 0, 5) ∨ syn.parse K K ((x0.take p).map tok3) = ([], p, 120) ∨ (syn.parse K K ((x0.take p).map tok3)).2 = (0, 0) := by
          have hah := syn.all_ahead HALL.out (by rw [hl0]; omega)
          rw [← List.map_take] at hah
          rcases parse_three K ((x0.take p).map tok3) with h | ⟨q, h1, h2, h3⟩ | ⟨x, s, h1, h2, h3, h5⟩
          · exact .inl h
          · right; left
            rw [h3]
            rcases hah with ⟨x, s, h⟩ | h
            · rw [h] at h2; cases h2
            · rw [h] at h2; cases h2; rfl
          · right; right
            rw [h3]
        obtain ⟨n7, hn7⟩ : ∃ q, q = (syn.parse K K ((x0.take p).map tok3)).1.length := ⟨_, rfl⟩
        rw [← hn7]
        have HB7 := Lib.hid (((o6.trans o7).alloc (.cells #[.slice N7 n7 d7] 25)).below (Below.refl _ _) (Nat.le_refl _) (fun _ e => e.elim))
        clear ht7 o7 o6 hn7 htl2 htl3
        have HO := Lib.hid hout
        clear hout
        rcases HO.out with h | h | h
        · rw [h]
          clear h
          go_wp2_with fail
          exact ⟨rfl, _, by simp [results, Try.results4, go_sem], rfl, HB7.out⟩
        · rw [h]
          clear h
          go_wp2_with fail
          exact ⟨rfl, _, by simp [results, Try.results4, go_sem], rfl, HB7.out⟩
        · rw [h]
          clear h
          go_wp2_with fail
          exact ⟨rfl, _, by simp [results, Try.results4, go_sem], rfl, HB7.out⟩
  · rw [hp]
    obtain ⟨n, hn⟩ : ∃ n, n = s.n.length := ⟨_, rfl⟩
    rw [← hn]
    have HB := Lib.hid ((p2.alloc (.cells #[.slice N1 n d1] 25)).below (Below.refl _ _) (Nat.le_refl _) (fun _ e => e.elim))
    clear ht p2 hp hn
    go_wp2_with fail
    exact ⟨rfl, _, by simp [results, Try.results4, go_sem], rfl, HB.out⟩
end Go.Proofs.Ytoggcdldoinbnaa
