/- The law's with: blocks as they are behind a group. -/
import Derived.Test.YtpmlmjbhgonegaaJGrp
namespace Go.Proofs.Ytpmlmjbhgonegaa
open Go.RowKit
set_option linter.unusedVariables false

def posOf (at_ : Int) (j : Nat) : Int := if (j : Int) < at_ then j else j + 199
theorem rowsTo_lo (at_ : Int) (G : Img) : ∀ k : Nat, (k : Int) ≤ at_ → rowsTo at_ G k = (List.range k).map fun j => G (j : Nat)
  | 0, _ => rfl
  | k + 1, h => by
    rw [rowsTo_out (by omega), rowsTo_lo at_ G k (by omega), List.range_succ, List.map_append]
    rfl
theorem rowsTo_mid (at_ : Int) (G : Img) (a : Nat) (ha : (a : Int) = at_) : ∀ k : Nat, k ≤ 199 → rowsTo at_ G (a + k) = (List.range a).map fun j => G (j : Nat)
  | 0, _ => rowsTo_lo at_ G a (by omega)
  | k + 1, h => by
    rw [show a + (k + 1) = (a + k) + 1 by omega, rowsTo_own (by omega)]
    exact rowsTo_mid at_ G a ha k (by omega)
theorem rowsTo_hi (at_ : Int) (G : Img) (a : Nat) (ha : (a : Int) = at_) : ∀ k : Nat, rowsTo at_ G (a + 199 + k) = (List.range (a + k)).map fun j => G (posOf at_ j)
  | 0 => by
    rw [show a + 199 + 0 = a + 199 by omega, rowsTo_mid at_ G a ha 199 (by omega)]
    refine List.map_congr_left (fun j hj => ?_)
    have := List.mem_range.1 hj
    unfold posOf
    rw [if_pos (by omega)]
  | k + 1 => by
    rw [show a + 199 + (k + 1) = (a + 199 + k) + 1 by omega, rowsTo_out (by omega), rowsTo_hi at_ G a ha k, show a + (k + 1) = (a + k) + 1 by omega, List.range_succ, List.map_append]
    congr 1
    simp only [List.map_cons, List.map_nil]
    unfold posOf
    rw [if_neg (by omega)]
    congr 2
    omega
theorem rowsTo_map {at_ : Int} (ha : 0 ≤ at_) (ha2 : at_ ≤ 60) (G : Img) : rowsTo at_ G 259 = (List.range 60).map fun j => G (posOf at_ j) := by
  obtain ⟨a, rfl⟩ := Int.eq_ofNat_of_zero_le ha
  have := rowsTo_hi (a : Int) G a rfl (60 - a)
  rw [show a + 199 + (60 - a) = 259 by omega, show a + (60 - a) = 60 by omega] at this
  exact this

theorem Img.row_last (f : Nat → Int × List UInt8) : ∀ (k i : Nat) (G : Img), Img.row f (k + 1) i G = (Img.row f k i G).put (f (i + k)).1 (f (i + k)).2
  | 0, _, _ => rfl
  | k + 1, i, G => by
    have h1 : Img.row f (k + 1 + 1) i G = Img.row f (k + 1) (i + 1) (G.put (f i).1 (f i).2) := rfl
    have h2 : Img.row f (k + 1) i G = Img.row f k (i + 1) (G.put (f i).1 (f i).2) := rfl
    rw [h1, h2, Img.row_last f k (i + 1), show i + 1 + k = i + (k + 1) by omega]

/-- A row of 60 slices in a block of one's own. -/
def WithAt (lo g : Nat) (w : World) (F : Nat → List UInt8) : Prop :=
  ∃ cur, w.heap[g]? = some (.cells cur 32 (0, 0)) ∧ 60 ≤ cur.size ∧ ∀ j, j < 60 → ∃ a ca, cur[j]? = some (.slice a (F j).length ca) ∧ SliceAt w a (F j) ∧ ∀ s, a = some s → lo ≤ s.block ∧ RowTy w s.block ∧ s.block ≠ g
section
variable {lo g : Nat} {w w' : World} {F : Nat → List UInt8}
theorem WithAt.grow (h : WithAt lo g w F) (k : Only (fun _ => False) w w') : WithAt lo g w' F := by
  obtain ⟨cur, hc, hs, hi⟩ := h
  refine ⟨cur, k.keeps hc (fun e => e), hs, fun j hj => ?_⟩
  obtain ⟨a, ca, h1, h2, h3⟩ := hi j hj
  exact ⟨a, ca, h1, h2.grow k, fun s e => ⟨(h3 s e).1, (h3 s e).2.1.only k (fun _ e => e.elim), (h3 s e).2.2⟩⟩
theorem WithAt.cell (h : WithAt lo g w F) (j : Nat) (hj : j < 60) : ∃ u, w.cell? ⟨g, j, none⟩ = some u ∧ ∃ cur, w.heap[g]? = some (.cells cur 32 (0, 0)) := by
  obtain ⟨cur, hc, hs, hi⟩ := h
  obtain ⟨a, ca, h1, -⟩ := hi j hj
  exact ⟨_, (cellOf hc j).trans h1, cur, hc⟩
theorem WithAt.set (h : WithAt lo g w F) (k : Nat) (hk : k < 60) (b c : Nat) (bs : List UInt8) (hr : RowAt w ⟨b, 0, none⟩ bs) (hb : lo ≤ b) (hty : RowTy w b) (hne : b ≠ g) {F' : Nat → List UInt8} (he : F' k = bs) (ho : ∀ j, j < 60 → j ≠ k → F' j = F j) :
    WithAt lo g (w.setCell ⟨g, k, none⟩ (.slice (some ⟨b, 0, none⟩) bs.length c)) F' := by
  obtain ⟨cur, hc, hs, hi⟩ := h
  have o : Only (· = g) w (w.setCell ⟨g, k, none⟩ (.slice (some ⟨b, 0, none⟩) bs.length c)) := (Only.refl _ w).put k _
  have hkeep : ∀ q, RowTy w q → RowTy (w.setCell ⟨g, k, none⟩ (.slice (some ⟨b, 0, none⟩) bs.length c)) q := fun q hq => by
    by_cases e : q = g
    · subst e
      exact ⟨_, _, _, heap_setCell_same w q k _ _ _ hc, .inl rfl⟩
    · obtain ⟨c1, t1, z1, h1, h2⟩ := hq
      exact ⟨c1, t1, z1, o.keeps h1 e, h2⟩
  refine ⟨_, heap_setCell_same w g k _ _ _ hc, by simp; exact hs, fun j hj => ?_⟩
  by_cases hjk : j = k
  · subst hjk
    refine ⟨some ⟨b, 0, none⟩, c, ?_, ?_, fun s e => by cases e; exact ⟨hb, hkeep _ hty, hne⟩⟩
    · rw [he, Array.getElem?_setIfInBounds_self_of_lt (by omega)]
    · rw [he]
      by_cases hl : bs = []
      · subst hl
        exact ⟨fun ad _ i b e => by simp at e, fun e => absurd rfl e⟩
      · exact .of_row (hr.only o hne (hr.lt (List.length_pos_iff.2 hl)))
  · obtain ⟨a, ca, h1, h2, h3⟩ := hi j hj
    rw [ho j hj hjk]
    refine ⟨a, ca, by rw [Array.getElem?_setIfInBounds_ne (fun e => hjk e.symm)]; exact h1, h2.only o (fun s e _ => (h3 s e).2.2), fun s e => ⟨(h3 s e).1, hkeep _ (h3 s e).2.1, (h3 s e).2.2⟩⟩
theorem WithAt.has (h : WithAt lo g w F) (hg : lo ≤ g) (c : Nat) : HasAt lo w (.slice (some ⟨g, 0, none⟩) 60 c) ((List.range 60).map F) := by
  obtain ⟨cur, hc, hs, hi⟩ := h
  refine ⟨some ⟨g, 0, none⟩, c, by simp, by simp, fun i bs hb => ?_⟩
  have hi60 : i < 60 := by
    rcases Nat.lt_or_ge i 60 with h | h
    · exact h
    · rw [List.getElem?_eq_none (by simp; omega)] at hb; cases hb
  rw [List.getElem?_map, List.getElem?_range hi60] at hb
  simp at hb
  subst hb
  obtain ⟨a, ca, h1, h2, h3⟩ := hi i hi60
  refine ⟨⟨g, 0, none⟩, a, ca, rfl, hg, ⟨_, _, _, hc, .inl rfl⟩, ?_, h2, fun s e => ⟨(h3 s e).1, (h3 s e).2.1⟩⟩
  rw [add_zero_block, cellOf hc]
  exact h1
end

theorem fresh_bytes {w : World} {lo : Nat} {v : Value} {bs : List UInt8} (h : w.ownsRow lo 5 1 v (0 + 64) ([] ++ bs.map bv)) : ∃ g cap, v = .slice (some ⟨g, 0, none⟩) 64 cap ∧ lo ≤ g ∧ RowAt w ⟨g, 0, none⟩ bs ∧ RowTy w g := by
  rcases h.2 with ⟨_, e⟩ | ⟨g, cap, cur, rfl, hb, hg, _⟩
  · omega
  · refine ⟨g, cap, rfl, hb, fun j q hq => ?_, _, _, _, hg, .inr (.inr rfl)⟩
    exact h.cells (g := g) rfl j (bv q) (by simp [hq])

set_option maxRecDepth 20000 in
set_option maxHeartbeats 2000000 in
theorem with_calls (T : Nat → Prop) (lo : Nat) (w : World) (hv : Value) (x : Option Addr) (l : List (Int × List UInt8)) (n c : Nat) (hn : n = l.length) (at_ : Int) (ha : 0 ≤ at_) (ha2 : at_ ≤ 60) (E : Img) (hh : HasAt lo w hv (rowsTo at_ E 259)) (hP : PutsAt T w x l) (hg : IsGroup 259 at_ l) (hlo : lo ≤ w.heap.size) :
    Calls Try.prog 24 #[hv, .int .i64 at_, .slice x n c] w fun e w' => ∃ v, e = .returned v ∧ HasAt lo w' v (rowsTo at_ (applied l E) 259) ∧ Only (fun _ => False) w w' := by
  have HP := Lib.hid hP
  have HN := Lib.hid hn
  have HG := Lib.hid hg
  have hw1 : IntKind.i64.wrap (at_ + 199) = at_ + 199 := IntWalk.i64_in _ (by omega)
  have hn192 : n ≤ 192 := by have := hg.few; omega
  rw [rowsTo_map ha ha2] at hh ⊢
  obtain ⟨xa, ch, rfl, -, hi⟩ := hh
  obtain ⟨ad, -, -, had, -⟩ := hi 0 (E (posOf at_ 0)) (by simp)
  subst had
  have hlen : ((List.range 60).map fun j => E (posOf at_ j)).length = 60 := by simp
  rw [hlen]
  have hex : ∃ vals : List Value, vals.length = 60 ∧ (∀ (j : Nat) u, vals[j]? = some u → w.cell? (ad.add j) = some u ∧ u.oneCell' = true) ∧ ∀ j, j < 60 → ∃ a ca, vals[j]? = some (.slice a (E (posOf at_ j)).length ca) ∧ SliceAt w a (E (posOf at_ j)) ∧ ∀ s, a = some s → lo ≤ s.block ∧ RowTy w s.block := by
    have hc : ∀ j, j < 60 → ∃ a ca, w.cell? (ad.add j) = some (.slice a (E (posOf at_ j)).length ca) ∧ SliceAt w a (E (posOf at_ j)) ∧ ∀ s, a = some s → lo ≤ s.block ∧ RowTy w s.block := fun j hj => by
      obtain ⟨ad2, a, ca, e, -, -, h1, h2, h3⟩ := hi j (E (posOf at_ j)) (by simp [hj])
      cases e
      exact ⟨a, ca, h1, h2, h3⟩
    refine ⟨(List.range 60).map fun j => (w.cell? (ad.add j)).getD undef, by simp, fun j u hu => ?_, fun j hj => ?_⟩
    · have hj : j < 60 := by
        rcases Nat.lt_or_ge j 60 with h | h
        · exact h
        · rw [List.getElem?_eq_none (by simp; omega)] at hu; cases hu
      obtain ⟨a, ca, h1, -⟩ := hc j hj
      rw [List.getElem?_map, List.getElem?_range hj] at hu
      simp only [Option.map_some, h1, Option.getD_some, Option.some.injEq] at hu
      subst hu
      exact ⟨h1, rfl⟩
    · obtain ⟨a, ca, h1, h2, h3⟩ := hc j hj
      refine ⟨a, ca, ?_, h2, h3⟩
      rw [List.getElem?_map, List.getElem?_range hj]
      simp only [Option.map_some, h1, Option.getD_some]
  obtain ⟨vals, hv1, hv2, hv3⟩ := hex
  have V1 := Lib.hid hv1
  have V2 := Lib.hid hv2
  have V3 := Lib.hid hv3
  obtain ⟨i0, hi0⟩ := rows_info
  have HR := Lib.hid hi0
  obtain ⟨i1, hi1⟩ := u8_info
  have HU := Lib.hid hi1
  clear hP hn hg hi hlen hi0 hi1 hv1 hv2 hv3
  go_enter Try.func24, Try.ntmps24
  go_wp2_with (at_builtin; refine wpList_append_own _ rfl (.tmp 10) (.tmp 11) 36 rfl w.heap.size 32 i0 (.slice none 0 0) 1 24 Try.underlying36 HR.out.1 HR.out.2.1 HR.out.2.2.1 HR.out.2.2.2 rfl (by decide) _ _ _ rfl (World.ownsRow_made w #[] 0 (Nat.le_refl _) (by decide) rfl) ad 60 ch vals rfl V1.out (fun j u hu => (World.cell?_of_block (w := w) (heap_alloc_old _ _ (block_lt_of_cell (V2.out j u hu).1))).trans (V2.out j u hu).1) (fun u hu => by obtain ⟨j, hj⟩ := List.mem_iff_getElem?.1 hu; exact (V2.out j u hj).2) (by unfold maxLen; omega) (by omega) (by simp) ?_; intro v' w8 hown hgr hnil)
  have hgr : (w.alloc (.cells #[] 32)).grownBy w8 (Value.slice (some ⟨w.heap.size, 0, none⟩) 0 0).ownBlock := hgr
  have o8 := ((Only.refl (fun _ => False) w).alloc (.cells #[] 32)).grown hgr (fun q hq => Or.inr (by simp [Value.ownBlock] at hq; omega))
  have hwa : ∃ g cap, v' = .slice (some ⟨g, 0, none⟩) 60 cap ∧ w.heap.size ≤ g ∧ WithAt lo g w8 fun j => E (posOf at_ j) := by
    rcases hown.2 with ⟨_, e⟩ | ⟨g, cap, cur, rfl, hb, hgg, _, _, _, htk⟩
    · omega
    · refine ⟨g, cap, rfl, hb, cur, hgg, ?_, fun j hj => ?_⟩
      · have h1 := V1.out
        have h2 := congrArg List.length htk
        simp at h2
        omega
      · obtain ⟨a, ca, h1, h2, h3⟩ := V3.out j hj
        refine ⟨a, ca, ?_, h2.grow o8, fun s e => ⟨(h3 s e).1, (h3 s e).2.only o8 (fun _ e => e.elim), by have := (h3 s e).2.lt; omega⟩⟩
        have h4 : cur.toList[j]? = vals[j]? := by
          have h5 : (cur.toList.take 60)[j]? = vals[j]? := by
            have h6 : cur.toList.take 60 = vals := by simpa using htk
            rw [h6]
          rw [List.getElem?_take, if_pos hj] at h5
          exact h5
        rw [← Array.getElem?_toList, h4]
        exact h1
  obtain ⟨g, cap, rfl, hbg, hwa⟩ := hwa
  have WA := Lib.hid hwa
  have O8 := Lib.hid o8
  have HBG := Lib.hid hbg
  clear hown hgr hnil o8 hwa hbg V1 V2 V3
  go_wp2_with fail
  go_loopw [8] (fun i wr => ∃ k : Nat, i = .int .i64 k ∧ k ≤ n ∧ Only (fun _ => False) w wr ∧ WithAt lo g wr fun j => Img.row (slot l) k 0 E (posOf at_ j)) (fun i _ => n - (intOf i).toNat)
  case atStart => exact ⟨0, rfl, Nat.zero_le _, O8.out, WA.out⟩
  case round =>
    clear O8 WA
    obtain ⟨k, rfl, hk, ho, hwa⟩ := hrel
    have O := Lib.hid ho
    have WA := Lib.hid hwa
    clear ho hwa
    by_cases hlt : k < n
    · have hki : (k : Int) < (n : Int) := by omega
      obtain ⟨⟨b, bs⟩, hs⟩ : ∃ y, l[k]? = some y := ⟨_, List.getElem?_eq_getElem (by rw [← HN.out]; exact hlt)⟩
      obtain ⟨ad2, a, ca, rfl, c0, c1, hsl, -, -⟩ := (HP.out.only O.out (fun _ e => e.elim)) k b bs hs
      have hkl : k < l.length := by rw [← HN.out]; exact hlt
      have hb0 := HG.out.lo k hkl
      have hb1 := HG.out.hi k hkl
      have hb2 := HG.out.own k hkl
      have hl64 := HG.out.full k hkl
      rw [slot_some hs] at hb0 hb1 hb2 hl64
      unfold inJ at hb2
      simp only at hb0 hb1 hb2 hl64
      have HS := Lib.hid hs
      obtain ⟨idx, hix, hpos, hcase⟩ : ∃ idx : Nat, idx < 60 ∧ posOf at_ idx = b ∧ ((at_ + 199 ≤ b ∧ b - 199 = (idx : Int)) ∨ (¬ at_ + 199 ≤ b ∧ b = (idx : Int))) := by
        by_cases h : at_ + 199 ≤ b
        · obtain ⟨q, hq⟩ := Int.eq_ofNat_of_zero_le (show 0 ≤ b - 199 by omega)
          exact ⟨q, by omega, by unfold posOf; rw [if_neg (by omega)]; omega, .inl ⟨h, hq⟩⟩
        · obtain ⟨q, rfl⟩ := Int.eq_ofNat_of_zero_le hb0
          exact ⟨q, by omega, by unfold posOf; rw [if_pos (by omega)], .inr ⟨h, rfl⟩⟩
      have HPOS := Lib.hid hpos
      clear hs hkl hb2 hpos
      rcases hcase with ⟨h1, h2⟩ | ⟨h1, h2⟩
      · have hwb : IntKind.i64.wrap (b - 199) = (idx : Int) := by rw [IntWalk.i64_in _ (by omega)]; exact h2
        have hbs64 : bs.length = 64 := hl64
        obtain ⟨sd, rfl⟩ := hsl.there (fun e => by rw [e] at hbs64; cases hbs64)
        have hrow := hsl.row sd rfl
        rw [hbs64] at c1
        have RW := Lib.hid hrow
        have B64 := Lib.hid hbs64
        have c1 := (World.cell?_of_block (w := wr) (heap_alloc_old _ (.cells #[] 5) (block_lt_of_cell c1))).trans c1
        have HC := Lib.hid (show ∀ (j : Nat) u, (bs.map bv)[j]? = some u → (wr.alloc (.cells #[] 5)).cell? (sd.add j) = some u from fun j u hu => by
          rw [List.getElem?_map] at hu
          obtain ⟨q, hq, rfl⟩ := Option.map_eq_some_iff.1 hu
          have h1 := RW.out j q hq
          exact (World.cell?_of_block (w := wr) (heap_alloc_old _ _ (block_lt_of_cell h1))).trans h1)
        have HO := Lib.hid (show ∀ u ∈ bs.map bv, u.oneCell' = true from fun u hu => by
          obtain ⟨q, _, rfl⟩ := List.mem_map.1 hu
          rfl)
        clear hsl hrow hbs64 hl64
        go_wp2_with (at_builtin; refine wpList_append_own _ rfl (.tmp 32) (.tmp 37) 32 rfl wr.heap.size 5 i1 (.int .u8 0) 1 1 Try.underlying32 HU.out.1 HU.out.2.1 HU.out.2.2.1 HU.out.2.2.2 rfl (by decide) _ _ _ rfl (World.ownsRow_made wr #[] 0 (Nat.le_refl _) (by decide) rfl) sd 64 ca (bs.map bv) rfl (by rw [List.length_map, B64.out]) HC.out HO.out (by unfold maxLen; omega) (by omega) (by simp) ?_; intro v2 w9 hown2 hgr2 hnil2; have hgr3 : (wr.alloc (.cells #[] 5)).grownBy w9 (Value.slice (some ⟨wr.heap.size, 0, none⟩) 0 0).ownBlock := hgr2; have o9 := ((Only.refl (fun _ => False) wr).alloc (.cells #[] 5)).grown hgr3 (fun q hq => Or.inr (by simp [Value.ownBlock] at hq; omega)); obtain ⟨g2, cap2, rfl, hb2, hr2, hty2⟩ := fresh_bytes hown2; have w9a := WA.out.grow o9; obtain ⟨uu, cs9, cur9, hc9⟩ := w9a.cell idx hix; obtain ⟨_, _, _, hc9w⟩ := WA.out.cell idx hix; have fs9 := freeOf hc9 idx)
        have HC9 := Lib.hid (lt_of_heap hc9w)
        have W9 := Lib.hid w9a
        have O9 := Lib.hid (O.out.trans o9)
        have N9 := Lib.hid (And.intro hr2 (And.intro hty2 hb2))
        clear hown2 hgr2 hnil2 o9 hr2 hty2 hb2 hc9 hc9w w9a hgr3
        go_roundw
        case rel =>
          refine ⟨k + 1, by go_num, by omega, O9.out.setCell_new (p := ⟨g, idx, none⟩) HBG.out _, ?_⟩
          have h := W9.out.set idx hix g2 cap2 bs N9.out.1 (by have := N9.out.2.2; have := O.out.size; omega) N9.out.2.1 (by have := N9.out.2.2; have := HC9.out; omega) (F' := fun j => Img.row (slot l) (k + 1) 0 E (posOf at_ j)) (by
            simp only [Img.row_last, Nat.zero_add, slot_some HS.out]
            unfold Img.put
            rw [if_pos HPOS.out]) (fun j hj hne => by
            simp only [Img.row_last, Nat.zero_add, slot_some HS.out]
            unfold Img.put
            rw [if_neg (fun e => hne (by
              have h1 := e.trans HPOS.out.symm
              unfold posOf at h1
              split at h1 <;> split at h1 <;> omega))])
          rw [B64.out] at h
          exact h
        case measure => simp [intOf]; omega
      · subst h2
        have hbs64 : bs.length = 64 := hl64
        obtain ⟨sd, rfl⟩ := hsl.there (fun e => by rw [e] at hbs64; cases hbs64)
        have hrow := hsl.row sd rfl
        rw [hbs64] at c1
        have RW := Lib.hid hrow
        have B64 := Lib.hid hbs64
        have c1 := (World.cell?_of_block (w := wr) (heap_alloc_old _ (.cells #[] 5) (block_lt_of_cell c1))).trans c1
        have HC := Lib.hid (show ∀ (j : Nat) u, (bs.map bv)[j]? = some u → (wr.alloc (.cells #[] 5)).cell? (sd.add j) = some u from fun j u hu => by
          rw [List.getElem?_map] at hu
          obtain ⟨q, hq, rfl⟩ := Option.map_eq_some_iff.1 hu
          have h1 := RW.out j q hq
          exact (World.cell?_of_block (w := wr) (heap_alloc_old _ _ (block_lt_of_cell h1))).trans h1)
        have HO := Lib.hid (show ∀ u ∈ bs.map bv, u.oneCell' = true from fun u hu => by
          obtain ⟨q, _, rfl⟩ := List.mem_map.1 hu
          rfl)
        clear hsl hrow hbs64 hl64
        go_wp2_with (at_builtin; refine wpList_append_own _ rfl (.tmp 32) (.tmp 37) 32 rfl wr.heap.size 5 i1 (.int .u8 0) 1 1 Try.underlying32 HU.out.1 HU.out.2.1 HU.out.2.2.1 HU.out.2.2.2 rfl (by decide) _ _ _ rfl (World.ownsRow_made wr #[] 0 (Nat.le_refl _) (by decide) rfl) sd 64 ca (bs.map bv) rfl (by rw [List.length_map, B64.out]) HC.out HO.out (by unfold maxLen; omega) (by omega) (by simp) ?_; intro v2 w9 hown2 hgr2 hnil2; have hgr3 : (wr.alloc (.cells #[] 5)).grownBy w9 (Value.slice (some ⟨wr.heap.size, 0, none⟩) 0 0).ownBlock := hgr2; have o9 := ((Only.refl (fun _ => False) wr).alloc (.cells #[] 5)).grown hgr3 (fun q hq => Or.inr (by simp [Value.ownBlock] at hq; omega)); obtain ⟨g2, cap2, rfl, hb2, hr2, hty2⟩ := fresh_bytes hown2; have w9a := WA.out.grow o9; obtain ⟨uu, cs9, cur9, hc9⟩ := w9a.cell idx hix; obtain ⟨_, _, _, hc9w⟩ := WA.out.cell idx hix; have fs9 := freeOf hc9 idx)
        have HC9 := Lib.hid (lt_of_heap hc9w)
        have W9 := Lib.hid w9a
        have O9 := Lib.hid (O.out.trans o9)
        have N9 := Lib.hid (And.intro hr2 (And.intro hty2 hb2))
        clear hown2 hgr2 hnil2 o9 hr2 hty2 hb2 hc9 hc9w w9a hgr3
        go_roundw
        case rel =>
          refine ⟨k + 1, by go_num, by omega, O9.out.setCell_new (p := ⟨g, idx, none⟩) HBG.out _, ?_⟩
          have h := W9.out.set idx hix g2 cap2 bs N9.out.1 (by have := N9.out.2.2; have := O.out.size; omega) N9.out.2.1 (by have := N9.out.2.2; have := HC9.out; omega) (F' := fun j => Img.row (slot l) (k + 1) 0 E (posOf at_ j)) (by
            simp only [Img.row_last, Nat.zero_add, slot_some HS.out]
            unfold Img.put
            rw [if_pos HPOS.out]) (fun j hj hne => by
            simp only [Img.row_last, Nat.zero_add, slot_some HS.out]
            unfold Img.put
            rw [if_neg (fun e => hne (by
              have h1 := e.trans HPOS.out.symm
              unfold posOf at h1
              split at h1 <;> split at h1 <;> omega))])
          rw [B64.out] at h
          exact h
        case measure => simp [intOf]; omega
    · have hki : ¬ (k : Int) < (n : Int) := by omega
      obtain rfl : k = n := by omega
      have hfin := WA.out.has (by have := HBG.out; omega) cap
      rw [HN.out] at hfin
      have HF := Lib.hid hfin
      clear hfin
      go_wp2_with fail
      go_ret
      exact ⟨_, rfl, HF.out, O.out⟩
end Go.Proofs.Ytpmlmjbhgonegaa
