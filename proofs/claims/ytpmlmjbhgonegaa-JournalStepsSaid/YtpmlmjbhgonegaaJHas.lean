/- The law's rows of blocks, as they are kept over other calls. -/
import Derived.Test.YtpmlmjbhgonegaaJPuts
namespace Go.Proofs.Ytpmlmjbhgonegaa
open Go.RowKit

/-- A block of rows, or of bytes: none of a disk, none of a journal. -/
def RowTy (w : World) (b : Nat) : Prop := ∃ cur t z, w.heap[b]? = some (.cells cur t z) ∧ (t = 32 ∨ t = 76 ∨ t = 5)
theorem RowTy.mk' {w : World} {b : Nat} {cur : Array Value} {t : TypeId} {z : Nat × Nat} (h : w.heap[b]? = some (.cells cur t z)) (ht : t = 32 ∨ t = 76 ∨ t = 5) : RowTy w b := ⟨cur, t, z, h, ht⟩
theorem RowTy.only {S : Nat → Prop} {w w' : World} {b : Nat} (h : RowTy w b) (k : Only S w w') (hs : ∀ i, S i → ¬ RowTy w i) : RowTy w' b := by
  obtain ⟨cur, t, z, hc, ht⟩ := h
  exact ⟨cur, t, z, k.keeps hc (fun e => hs _ e ⟨cur, t, z, hc, ht⟩), ht⟩
theorem RowTy.drew {w : World} {b : Nat} (h : RowTy w b) : RowTy w.drew b := h
theorem RowTy.lt {w : World} {b : Nat} (h : RowTy w b) : b < w.heap.size := by
  obtain ⟨cur, t, z, hc, -⟩ := h
  exact lt_of_heap hc
/-- A disk's blocks, and a journal's, are none of these. -/
theorem JSt.noRow {B : Nat} {w0 w : World} {p r : Nat} {D : DK} {jb : Nat} {at_ g : Int} (h : JSt B w0 w p r D jb at_ g) : ∀ i, Three p r jb i → ¬ RowTy w i := by
  obtain ⟨es, c, hm, -⟩ := h.st.disk.map
  rintro i hi ⟨cur, t, z, hc, ht⟩
  rcases hi with rfl | rfl | rfl
  · rw [h.st.disk.cells] at hc
    cases hc
    revert ht; decide
  · rw [hm] at hc; cases hc
  · rw [h.cells] at hc
    cases hc
    revert ht; decide
theorem DSt.noRow {B : Nat} {w0 w : World} {p r : Nat} {D : DK} (h : DSt B w0 w p r D) : ∀ i, Two p r i → ¬ RowTy w i := by
  obtain ⟨es, c, hm, -⟩ := h.disk.map
  rintro i hi ⟨cur, t, z, hc, ht⟩
  rcases hi with rfl | rfl
  · rw [h.disk.cells] at hc
    cases hc
    revert ht; decide
  · rw [hm] at hc; cases hc

/-- A value that shows these rows, in blocks of the call's own. -/
def HasAt (lo : Nat) (w : World) (v : Value) (L : List (List UInt8)) : Prop :=
  ∃ x c, v = .slice x L.length c ∧ L.length ≤ 9223372036854775807 ∧ ∀ (i : Nat) bs, L[i]? = some bs → ∃ ad a ca, x = some ad ∧ lo ≤ ad.block ∧ RowTy w ad.block ∧ w.cell? (ad.add i) = some (.slice a bs.length ca) ∧ SliceAt w a bs ∧ ∀ s, a = some s → lo ≤ s.block ∧ RowTy w s.block
theorem HasAt.rows {lo : Nat} {w : World} {v : Value} {L : List (List UInt8)} (h : HasAt lo w v L) : RowsAt lo w v L := by
  obtain ⟨x, c, hv, hm, hi⟩ := h
  refine ⟨x, c, hv, hm, fun i bs hb => ?_⟩
  obtain ⟨ad, a, ca, hx, hlo, -, hc, hsl, hsa⟩ := hi i bs hb
  exact ⟨ad, a, ca, hx, hlo, hc, hsl, fun s e => (hsa s e).1⟩
theorem HasAt.mono {lo lo' : Nat} {w : World} {v : Value} {L : List (List UInt8)} (h : HasAt lo w v L) (hl : lo' ≤ lo) : HasAt lo' w v L := by
  obtain ⟨x, c, hv, hm, hi⟩ := h
  refine ⟨x, c, hv, hm, fun i bs hb => ?_⟩
  obtain ⟨ad, a, ca, hx, hlo, hty, hc, hsl, hsa⟩ := hi i bs hb
  exact ⟨ad, a, ca, hx, by omega, hty, hc, hsl, fun s e => ⟨by have := (hsa s e).1; omega, (hsa s e).2⟩⟩
theorem HasAt.drew {lo : Nat} {w : World} {v : Value} {L : List (List UInt8)} (h : HasAt lo w v L) : HasAt lo w.drew v L := by
  obtain ⟨x, c, hv, hm, hi⟩ := h
  refine ⟨x, c, hv, hm, fun i bs hb => ?_⟩
  obtain ⟨ad, a, ca, hx, hlo, hty, hc, hsl, hsa⟩ := hi i bs hb
  exact ⟨ad, a, ca, hx, hlo, hty, hc, ⟨fun s e => (hsl.row s e).drew, hsl.there⟩, hsa⟩
theorem HasAt.only {lo : Nat} {S : Nat → Prop} {w w' : World} {v : Value} {L : List (List UInt8)} (h : HasAt lo w v L) (k : Only S w w') (hs : ∀ i, S i → ¬ RowTy w i) : HasAt lo w' v L := by
  obtain ⟨x, c, rfl, hm, hi⟩ := h
  refine ⟨x, c, rfl, hm, fun i bs hb => ?_⟩
  obtain ⟨ad, a, ca, hx, hlo, hty, hc, hsl, hsa⟩ := hi i bs hb
  refine ⟨ad, a, ca, hx, hlo, hty.only k hs, ?_, hsl.only k (fun s e _ h2 => hs _ h2 (hsa s e).2), fun s e => ⟨(hsa s e).1, (hsa s e).2.only k hs⟩⟩
  have hlt := hty.lt
  have : w'.cell? (ad.add i) = w.cell? (ad.add i) := k.cell (by rw [add_block]; exact hlt) (by rw [add_block]; exact fun e => hs _ e hty)
  rw [this]; exact hc

theorem Gathered.has {lo : Nat} {w : World} {v : Value} {bl : List Nat} {L : List (List UInt8)} (h : Gathered lo w v bl L) (hL : ∀ l ∈ L, l.length = 64) (hm : L.length ≤ 9223372036854775807) : HasAt lo w v L := by
  obtain ⟨g, c, rfl⟩ := h.shape
  refine ⟨some ⟨g, 0, none⟩, c, by rw [h.len], hm, fun i bs hi => ?_⟩
  have hil : i < L.length := by
    rcases Nat.lt_or_ge i L.length with h1 | h1
    · exact h1
    · rw [List.getElem?_eq_none h1] at hi; cases hi
  obtain ⟨b, hb⟩ : ∃ b, bl[i]? = .some b := ⟨_, List.getElem?_eq_getElem (by rw [h.len]; exact hil)⟩
  obtain ⟨hlo, hblk⟩ := h.rows i b hb
  have hbs : L.getD i [] = bs := by rw [List.getD_eq_getElem?_getD, hi]; rfl
  have h64 : bs.length = 64 := hL bs (List.mem_iff_getElem?.2 ⟨i, hi⟩)
  rw [hbs] at hblk
  have hgty : RowTy w g := by
    rcases h.own.2 with ⟨e, _⟩ | ⟨g', cap, cur, e, _, hg, _⟩
    · cases e
    · cases e; exact ⟨_, _, _, hg, .inl rfl⟩
  refine ⟨⟨g, 0, none⟩, .some ⟨b, 0, none⟩, 64, rfl, (h.own.lt g rfl).1, hgty, ?_, .of_row (.of_cells hblk), fun s e => by cases e; exact ⟨hlo, _, _, _, hblk, .inr (.inl rfl)⟩⟩
  rw [h64]
  exact h.own.cells (g := g) rfl i (rowVal b) (by rw [List.getElem?_map, hb]; rfl)

set_option maxHeartbeats 2000000 in
theorem rows_has {B : Nat} {w0 w : World} {p r : Nat} {D : DK} (h : DSt B w0 w p r D) (at_ len : Int) (hlen : D.len = len) (hoff : D.off = false) (ha : 0 ≤ at_) (ha2 : at_ ≤ 4096) (hl : 0 ≤ len) (hl2 : len ≤ 4096) :
    Calls Try.prog 18 #[.pointer (some ⟨p, 0, none⟩), .int .i64 at_] w fun e w' => ∃ v, e = .returned (.tuple #[v, .bool true]) ∧ HasAt w.heap.size w' v (rowsTo at_ D.get len.toNat) ∧ DSt B w0 w' p r D ∧ Only (fun _ => False) w w' := by
  have S := Lib.hid h
  have FL := Lib.hid hlen
  have FO := Lib.hid hoff
  obtain ⟨i0, hi0⟩ := rows_info
  have HI := Lib.hid hi0
  have hw1 : IntKind.i64.wrap (at_ + 199) = at_ + 199 := IntWalk.i64_in _ (by omega)
  clear h hlen hoff hi0
  go_enter Try.func18, Try.ntmps18
  go_wp2_with fail
  go_loopw [7, 6] (fun i v wr => ∃ (k : Nat) (bl : List Nat), i = .int .i64 k ∧ (k : Int) ≤ len ∧ Only (fun _ => False) w wr ∧ Gathered w.heap.size wr v bl (rowsTo at_ D.get k)) (fun i _ _ => len.toNat - (intOf i).toNat)
  case atStart =>
    refine ⟨0, [], rfl, hl, (Only.refl _ w).alloc _, ⟨?_, ⟨_, _, rfl⟩, rfl, fun i b e => by simp at e⟩⟩
    exact World.ownsRow_made w #[] 0 (Nat.le_refl _) (by decide) rfl
  case round =>
    obtain ⟨k, bl, rfl, hk, ho, hg⟩ := hrel
    have O := Lib.hid ho
    have G := Lib.hid hg
    have SS := Lib.hid (S.out.same ho)
    obtain ⟨g, c, hv⟩ := hg.shape
    subst hv
    clear ho hg
    have hlc := len_calls wr p r D SS.out.disk
    rw [FL.out] at hlc
    have HLC := Lib.hid hlc
    clear hlc
    by_cases hlt : (k : Int) < len
    · by_cases hin : at_ ≤ (k : Int) ∧ (k : Int) < at_ + 199
      · have G' := Lib.hid (show Gathered w.heap.size wr (.slice (some ⟨g, 0, none⟩) bl.length c) bl (rowsTo at_ D.get (k + 1)) by rw [rowsTo_own hin]; exact G.out)
        obtain ⟨hin1, hin2⟩ := hin
        go_wp2_with fail
        refine HLC.out.mono ?_
        rintro e w5 ⟨rfl, rfl⟩
        go_wp2_with fail
        go_roundw
        case rel => exact ⟨k + 1, bl, by go_num, by omega, O.out, G'.out⟩
        case measure => simp [intOf]; omega
      · have HOUT := Lib.hid hin
        have hcase : (k : Int) < at_ ∨ (at_ ≤ (k : Int) ∧ at_ + 199 ≤ (k : Int)) := by omega
        clear hin
        have hrd := read_calls wr p r D k SS.out.disk (code_on FO.out (by omega) (by rw [FL.out]; exact hlt))
        have HRD := Lib.hid hrd
        have hll : (rowsTo at_ D.get k).length ≤ 4096 := Nat.le_trans (rowsTo_le at_ D.get k) (by omega)
        have hbl : bl.length ≤ 4096 := by rw [G.out.len]; exact hll
        clear hrd hll
        rcases hcase with hc1 | ⟨hc1, hc2⟩
        · go_wp2_with fail
          refine HLC.out.mono ?_
          rintro e w5 ⟨rfl, rfl⟩
          go_wp2_with fail
          refine HRD.out.mono ?_
          rintro e w6 ⟨rfl, rfl⟩
          go_wp2_with (at_builtin; refine wpList_append_own _ rfl (.tmp 34) (.tmp 36) 36 rfl w.heap.size 32 i0 (.slice none 0 0) 1 24 Try.underlying36 HI.out.1 HI.out.2.1 HI.out.2.2.1 HI.out.2.2.2 rfl (by decide) _ _ _ rfl ((G.out.own.alloc _).alloc _) ⟨wr.heap.size + 1, 0, none⟩ 1 1 [rowVal wr.heap.size] rfl rfl (one_cell _ _ _ _) (by simp [rowVal, Value.oneCell']) (by unfold maxLen; omega) (by omega) (by have := O.out.size; simp; omega) ?_; intro v' w7 hown hgr hnil)
          have O7 := Lib.hid (((O.out.alloc (.cells (bvs (D.get k)) 76)).alloc (.cells #[rowVal wr.heap.size] 32)).grown hgr (fun q hq => Or.inr (G.out.own.lt q hq).1))
          have G7 := Lib.hid (G.out.more HOUT.out hown hgr hnil O.out.size)
          clear hown hgr hnil
          go_wp2_with fail
          go_roundw
          case rel => exact ⟨k + 1, bl ++ [wr.heap.size], by go_num, by omega, O7.out, G7.out⟩
          case measure => simp [intOf]; omega
        · go_wp2_with fail
          refine HLC.out.mono ?_
          rintro e w5 ⟨rfl, rfl⟩
          go_wp2_with fail
          refine HRD.out.mono ?_
          rintro e w6 ⟨rfl, rfl⟩
          go_wp2_with (at_builtin; refine wpList_append_own _ rfl (.tmp 34) (.tmp 36) 36 rfl w.heap.size 32 i0 (.slice none 0 0) 1 24 Try.underlying36 HI.out.1 HI.out.2.1 HI.out.2.2.1 HI.out.2.2.2 rfl (by decide) _ _ _ rfl ((G.out.own.alloc _).alloc _) ⟨wr.heap.size + 1, 0, none⟩ 1 1 [rowVal wr.heap.size] rfl rfl (one_cell _ _ _ _) (by simp [rowVal, Value.oneCell']) (by unfold maxLen; omega) (by omega) (by have := O.out.size; simp; omega) ?_; intro v' w7 hown hgr hnil)
          have O7 := Lib.hid (((O.out.alloc (.cells (bvs (D.get k)) 76)).alloc (.cells #[rowVal wr.heap.size] 32)).grown hgr (fun q hq => Or.inr (G.out.own.lt q hq).1))
          have G7 := Lib.hid (G.out.more HOUT.out hown hgr hnil O.out.size)
          clear hown hgr hnil
          go_wp2_with fail
          go_roundw
          case rel => exact ⟨k + 1, bl ++ [wr.heap.size], by go_num, by omega, O7.out, G7.out⟩
          case measure => simp [intOf]; omega
    · have hkl : (k : Int) = len := by omega
      have hk2 : k = len.toNat := by omega
      have R := Lib.hid (G.out.has (fun l hl => by
        unfold rowsTo at hl
        obtain ⟨i, -, rfl⟩ := List.mem_map.1 hl
        exact DK.get_long S.out.disk _) (Nat.le_trans (rowsTo_le at_ D.get k) (by omega)))
      rw [hk2] at R
      clear hk2
      go_wp2_with fail
      refine HLC.out.mono ?_
      rintro e w5 ⟨rfl, rfl⟩
      go_wp2_with fail
      go_ret2
      exact ⟨_, rfl, R.out, SS.out, O.out⟩
end Go.Proofs.Ytpmlmjbhgonegaa
