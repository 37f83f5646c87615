/- The laws' rows, same and among. -/
import Derived.Test.YtpmlmjbhgonegaaJShown
namespace Go.Proofs.Ytpmlmjbhgonegaa
open Go.RowKit

def amongOf (c : Int) (n : Int) : Int := if c < 0 then (-(c + 1)) % n else c % n

set_option maxHeartbeats 400000 in
theorem among_calls (w : World) (c n : Int) (h1 : -9223372036854775808 ≤ c) (h2 : c ≤ 9223372036854775807) (hn : 0 < n) (hn2 : n ≤ 1000) :
    Calls Try.prog 19 #[.int .i64 c, .int .i64 n] w fun e w' => e = .returned (.int .i64 (amongOf c n)) ∧ w = w' := by
  unfold amongOf
  by_cases hc : c < 0
  · go_enter Try.func19, Try.ntmps19
    go_wp2
    go_ret
    refine ⟨ret_i ?_, rfl⟩
    show (-(c + 1).tmod n : Int) = _
    rw [← Int.neg_tmod, Int.tmod_eq_emod_of_nonneg (by omega)]
  · go_enter Try.func19, Try.ntmps19
    go_wp2
    go_ret
    exact ⟨rfl, rfl⟩

theorem amongOf_range (c n : Int) (hn : 0 < n) : 0 ≤ amongOf c n ∧ amongOf c n < n := by
  unfold amongOf
  split
  · exact ⟨Int.emod_nonneg _ (by omega), Int.emod_lt_of_pos _ hn⟩
  · exact ⟨Int.emod_nonneg _ (by omega), Int.emod_lt_of_pos _ hn⟩

/-- A slice of slices of bytes, all of it in blocks from lo on. -/
def RowsAt (lo : Nat) (w : World) (v : Value) (L : List (List UInt8)) : Prop :=
  ∃ x c, v = .slice x L.length c ∧ L.length ≤ 9223372036854775807 ∧ ∀ (i : Nat) bs, L[i]? = some bs → ∃ ad a ca, x = some ad ∧ lo ≤ ad.block ∧ w.cell? (ad.add i) = some (.slice a bs.length ca) ∧ SliceAt w a bs ∧ ∀ s, a = some s → lo ≤ s.block
theorem RowsAt.only {lo : Nat} {S : Nat → Prop} {w w' : World} {v : Value} {L : List (List UInt8)} (h : RowsAt lo w v L) (k : Only S w w') (hs : ∀ i, S i → i < lo) : RowsAt lo w' v L := by
  obtain ⟨x, c, rfl, hm, hi⟩ := h
  refine ⟨x, c, rfl, hm, fun i bs hb => ?_⟩
  obtain ⟨ad, a, ca, hx, hlo, hc, hsl, hsa⟩ := hi i bs hb
  have hlt := block_lt_of_cell hc
  refine ⟨ad, a, ca, hx, hlo, ?_, hsl.only k (fun s e _ h2 => by have := hsa s e; have := hs _ h2; omega), hsa⟩
  rw [k.cell hlt (fun e => by have := hs _ e; rw [add_block] at this; omega)]
  exact hc

set_option maxHeartbeats 1000000 in
theorem same_calls (w : World) (lo : Nat) (va vb : Value) (LA LB : List (List UInt8)) (ha : RowsAt lo w va LA) (hb : RowsAt lo w vb LB) :
    Calls Try.prog 20 #[va, vb] w fun e w' => e = .returned (.bool (decide (LA = LB))) ∧ Only (fun _ => False) w w' := by
  obtain ⟨xa, ca, rfl, hma, hia⟩ := ha
  obtain ⟨xb, cb, rfl, hmb, hib⟩ := hb
  have HA := Lib.hid hia
  have HB := Lib.hid hib
  clear hia hib
  obtain ⟨na, hna⟩ : ∃ n, n = LA.length := ⟨_, rfl⟩
  obtain ⟨nb, hnb⟩ : ∃ n, n = LB.length := ⟨_, rfl⟩
  rw [← hna] at hma ⊢
  rw [← hnb] at hmb ⊢
  have HNA := Lib.hid hna
  have HNB := Lib.hid hnb
  clear hna hnb
  by_cases hl : na = nb
  · subst hl
    go_enter Try.func20, Try.ntmps20
    go_wp2_with fail
    go_loopw [5] (fun i wr => ∃ k : Nat, i = .int .i64 k ∧ k ≤ na ∧ Only (fun _ => False) w wr ∧ LA.take k = LB.take k) (fun i _ => na - (intOf i).toNat)
    case atStart => exact ⟨0, rfl, Nat.zero_le _, Only.refl _ _, rfl⟩
    case round =>
      obtain ⟨k, rfl, hk, ho, ht⟩ := hrel
      have O := Lib.hid ho
      have HT := Lib.hid ht
      clear ho ht
      by_cases hlt : k < na
      · obtain ⟨la, hla⟩ : ∃ b, LA[k]? = some b := ⟨_, List.getElem?_eq_getElem (by have := HNA.out; omega)⟩
        obtain ⟨lb, hlb⟩ : ∃ b, LB[k]? = some b := ⟨_, List.getElem?_eq_getElem (by have := HNB.out; omega)⟩
        obtain ⟨ada, ax, cx, rfl, -, d0, hsx, -⟩ := HA.out k la hla
        obtain ⟨adb, ay, cy, rfl, -, d1, hsy, -⟩ := HB.out k lb hlb
        have cx0 := some_kept O.out d0
        have cy0 := some_kept O.out d1
        have Sx := Lib.hid (hsx.grow O.out)
        have Sy := Lib.hid (hsy.grow O.out)
        obtain ⟨nx, hnx⟩ : ∃ n, n = la.length := ⟨_, rfl⟩
        obtain ⟨ny, hny⟩ : ∃ n, n = lb.length := ⟨_, rfl⟩
        rw [← hnx] at cx0
        rw [← hny] at cy0
        have HNx := Lib.hid hnx
        have HNy := Lib.hid hny
        have HLA := Lib.hid hla
        have HLB := Lib.hid hlb
        clear d0 d1 hsx hsy hnx hny hla hlb
        go_wp2_with fail
        by_cases he : la = lb
        · have HE := Lib.hid he
          clear he
          refine wp_region_grow (Only (fun _ => False)) (fun | _ => none) (by kernel_rfl) (by kernel_rfl) (Only.refl _) (fun _ _ _ => Only.trans) ?_ ?_
          · intro i V hV
            cases hV
          simp only [List.zipIdx_cons, List.zipIdx_nil, Nat.zero_add, Nat.reduceAdd]
          iterate 2 (refine grow_det ?_ rfl (fun w' => ?_) ?_; rotate_left 1; (unfold Runs; go_simp; rfl); try simp only [Act.put, List.setIfInBounds_toArray, List.set_cons_zero, List.set_cons_succ])
          iterate 1 (refine grow_det ?_ rfl (fun w' => ?_) ?_; rotate_left 1; (unfold Runs; go_simp; rfl); try simp only [Act.put, List.setIfInBounds_toArray, List.set_cons_zero, List.set_cons_succ])
          refine grow_read (.slice ax nx cx) rfl (fun w' hr hf => ?_) ?_
          · have h1 := some_kept hr cx0
            unfold Runs
            go_simp
          simp only [Act.put, List.setIfInBounds_toArray, List.set_cons_zero, List.set_cons_succ]
          refine grow_read (.string (strOf la)) rfl (fun w' hr hf => ?_) ?_
          · have h1 := conv_slice la ax nx cx HNx.out w' (Sx.out.grow ((Only.refl _ _).drew.trans hr))
            unfold Runs
            go_simp
          simp only [Act.put, List.setIfInBounds_toArray, List.set_cons_zero, List.set_cons_succ]
          iterate 3 (refine grow_det ?_ rfl (fun w' => ?_) ?_; rotate_left 1; (unfold Runs; go_simp; rfl); try simp only [Act.put, List.setIfInBounds_toArray, List.set_cons_zero, List.set_cons_succ])
          refine grow_read (.slice ay ny cy) rfl (fun w' hr hf => ?_) ?_
          · have h1 := some_kept hr cy0
            unfold Runs
            go_simp
          simp only [Act.put, List.setIfInBounds_toArray, List.set_cons_zero, List.set_cons_succ]
          refine grow_read (.string (strOf lb)) rfl (fun w' hr hf => ?_) ?_
          · have h1 := conv_slice lb ay ny cy HNy.out w' (Sy.out.grow ((Only.refl _ _).drew.trans hr))
            unfold Runs
            go_simp
          simp only [Act.put, List.setIfInBounds_toArray, List.set_cons_zero, List.set_cons_succ]
          refine grow_det (.bool false) rfl (fun w' => ?_) ?_
          · unfold Runs
            go_simp
            all_goals (exact HE.out)
          simp only [Act.put, List.setIfInBounds_toArray, List.set_cons_zero, List.set_cons_succ]
          refine grow_end (fun w5 hr hf => ?_)
          clear hf
          have O5 := Lib.hid (O.out.drew.trans hr)
          clear hr
          go_wp2_with fail
          go_roundw
          case rel => exact ⟨k + 1, by go_num, by omega, O5.out, by rw [List.take_add_one, List.take_add_one, HT.out, HLA.out, HLB.out, HE.out]⟩
          case measure => simp [intOf]; omega
        · have HE := Lib.hid he
          clear he
          refine wp_region_grow (Only (fun _ => False)) (fun | _ => none) (by kernel_rfl) (by kernel_rfl) (Only.refl _) (fun _ _ _ => Only.trans) ?_ ?_
          · intro i V hV
            cases hV
          simp only [List.zipIdx_cons, List.zipIdx_nil, Nat.zero_add, Nat.reduceAdd]
          iterate 2 (refine grow_det ?_ rfl (fun w' => ?_) ?_; rotate_left 1; (unfold Runs; go_simp; rfl); try simp only [Act.put, List.setIfInBounds_toArray, List.set_cons_zero, List.set_cons_succ])
          iterate 1 (refine grow_det ?_ rfl (fun w' => ?_) ?_; rotate_left 1; (unfold Runs; go_simp; rfl); try simp only [Act.put, List.setIfInBounds_toArray, List.set_cons_zero, List.set_cons_succ])
          refine grow_read (.slice ax nx cx) rfl (fun w' hr hf => ?_) ?_
          · have h1 := some_kept hr cx0
            unfold Runs
            go_simp
          simp only [Act.put, List.setIfInBounds_toArray, List.set_cons_zero, List.set_cons_succ]
          refine grow_read (.string (strOf la)) rfl (fun w' hr hf => ?_) ?_
          · have h1 := conv_slice la ax nx cx HNx.out w' (Sx.out.grow ((Only.refl _ _).drew.trans hr))
            unfold Runs
            go_simp
          simp only [Act.put, List.setIfInBounds_toArray, List.set_cons_zero, List.set_cons_succ]
          iterate 3 (refine grow_det ?_ rfl (fun w' => ?_) ?_; rotate_left 1; (unfold Runs; go_simp; rfl); try simp only [Act.put, List.setIfInBounds_toArray, List.set_cons_zero, List.set_cons_succ])
          refine grow_read (.slice ay ny cy) rfl (fun w' hr hf => ?_) ?_
          · have h1 := some_kept hr cy0
            unfold Runs
            go_simp
          simp only [Act.put, List.setIfInBounds_toArray, List.set_cons_zero, List.set_cons_succ]
          refine grow_read (.string (strOf lb)) rfl (fun w' hr hf => ?_) ?_
          · have h1 := conv_slice lb ay ny cy HNy.out w' (Sy.out.grow ((Only.refl _ _).drew.trans hr))
            unfold Runs
            go_simp
          simp only [Act.put, List.setIfInBounds_toArray, List.set_cons_zero, List.set_cons_succ]
          refine grow_det (.bool true) rfl (fun w' => ?_) ?_
          · unfold Runs
            go_simp
            all_goals (exact HE.out)
          simp only [Act.put, List.setIfInBounds_toArray, List.set_cons_zero, List.set_cons_succ]
          refine grow_end (fun w5 hr hf => ?_)
          clear hf
          have O5 := Lib.hid (O.out.drew.trans hr)
          clear hr
          have F := Lib.hid (show decide (LA = LB) = false from decide_eq_false (fun e => HE.out (by have h1 := HLA.out; rw [e, HLB.out] at h1; exact (Option.some.inj h1).symm)))
          go_wp2_with fail
          go_ret
          exact ⟨by rw [F.out]; rfl, O5.out⟩
      · have hkn : k = na := by omega
        have F := Lib.hid (show decide (LA = LB) = true from decide_eq_true (by
          have h1 := HT.out
          have h2 := HNA.out
          have h3 := HNB.out
          rwa [List.take_of_length_le (by omega), List.take_of_length_le (by omega)] at h1))
        go_wp2_with fail
        go_ret
        exact ⟨by rw [F.out]; rfl, O.out⟩
  · have F := Lib.hid (show decide (LA = LB) = false from decide_eq_false (fun e => hl (by rw [HNA.out, HNB.out, e])))
    go_enter Try.func20, Try.ntmps20
    go_wp2_with fail
    go_ret
    exact ⟨by rw [F.out]; rfl, Only.refl _ _⟩

/-- The blocks that are not the journal's, of the first k. -/
def rowsTo (at_ : Int) (G : Img) (k : Nat) : List (List UInt8) := ((List.range k).filter fun (i : Nat) => !(decide (at_ ≤ (i : Int)) && decide ((i : Int) < at_ + 199))).map fun i => G (i : Nat)
theorem rowsTo_own {at_ : Int} {G : Img} {k : Nat} (h : at_ ≤ (k : Int) ∧ (k : Int) < at_ + 199) : rowsTo at_ G (k + 1) = rowsTo at_ G k := by
  unfold rowsTo
  rw [List.range_succ, List.filter_append]
  simp [h.1, h.2]
theorem rowsTo_out {at_ : Int} {G : Img} {k : Nat} (h : ¬ (at_ ≤ (k : Int) ∧ (k : Int) < at_ + 199)) : rowsTo at_ G (k + 1) = rowsTo at_ G k ++ [G (k : Nat)] := by
  unfold rowsTo
  rw [List.range_succ, List.filter_append, List.map_append]
  congr 1
  have : (!(decide (at_ ≤ (k : Int)) && decide ((k : Int) < at_ + 199))) = true := by
    simp only [Bool.not_eq_true', Bool.and_eq_false_iff, decide_eq_false_iff_not]
    omega
  rw [List.filter_cons, if_pos this]
  rfl
theorem rowsTo_same {at_ : Int} {G G' : Img} (h : ∀ n, ¬ inJ at_ n → G n = G' n) (k : Nat) : rowsTo at_ G k = rowsTo at_ G' k := by
  unfold rowsTo
  refine List.map_congr_left (fun i hi => h _ (fun e => ?_))
  rw [List.mem_filter] at hi
  have := hi.2
  unfold inJ at e
  simp [e.1, e.2] at this
theorem rowsTo_le (at_ : Int) (G : Img) (k : Nat) : (rowsTo at_ G k).length ≤ k := by
  unfold rowsTo
  rw [List.length_map]
  exact Nat.le_trans (List.length_filter_le _ _) (by simp)

theorem rows_info : ∃ i, Try.prog.info? 32 = some i ∧ i.zero = some (.slice none 0 0) ∧ i.size = 1 ∧ i.bytes = 24 := by
  have h : (Try.prog.info? 32).map (fun i => (i.zero, i.size, i.bytes)) = some (some (.slice none 0 0), 1, 24) := by kernel_rfl
  cases hq : Try.prog.info? 32 with
  | none => rw [hq] at h; cases h
  | some i =>
    rw [hq] at h
    simp at h
    exact ⟨i, rfl, h.1, h.2.1, h.2.2⟩

def rowVal (b : Nat) : Value := .slice (some ⟨b, 0, none⟩) 64 64

theorem getD_append_lt {α : Type} (l m : List α) (i : Nat) (d : α) (h : i < l.length) : (l ++ m).getD i d = l.getD i d := by
  rw [List.getD_eq_getElem?_getD, List.getD_eq_getElem?_getD, List.getElem?_append_left h]
theorem getD_append_len {α : Type} (l : List α) (x d : α) : (l ++ [x]).getD l.length d = x := by
  rw [List.getD_eq_getElem?_getD, List.getElem?_append_right (Nat.le_refl _), Nat.sub_self]; rfl

/-- What rows has gathered: its own row of slices, and the blocks that they show. -/
structure Gathered (lo : Nat) (w : World) (v : Value) (bl : List Nat) (L : List (List UInt8)) : Prop where
  own : w.ownsRow lo 32 1 v bl.length (bl.map rowVal)
  shape : ∃ g c, v = .slice (some ⟨g, 0, none⟩) bl.length c
  len : bl.length = L.length
  rows : ∀ (i : Nat) b, bl[i]? = some b → lo ≤ b ∧ w.heap[b]? = some (.cells (bvs (L.getD i [])) 76 (0, 0))

theorem Gathered.at {lo : Nat} {w : World} {v : Value} {bl : List Nat} {L : List (List UInt8)} (h : Gathered lo w v bl L) (hL : ∀ l ∈ L, l.length = 64) (hm : L.length ≤ 9223372036854775807) : RowsAt lo w v L := by
  obtain ⟨g, c, rfl⟩ := h.shape
  refine ⟨some ⟨g, 0, none⟩, c, by rw [h.len], hm, fun i bs hi => ?_⟩
  have hil : i < L.length := by
    rcases Nat.lt_or_ge i L.length with h1 | h1
    · exact h1
    · rw [List.getElem?_eq_none h1] at hi; cases hi
  obtain ⟨b, hb⟩ : ∃ b, bl[i]? = .some b := ⟨_, List.getElem?_eq_getElem (by rw [h.len]; exact hil)⟩
  obtain ⟨hlo, hblk⟩ := h.rows i b hb
  have hbs : L.getD i [] = bs := by rw [List.getD_eq_getElem?_getD, hi]; rfl
  have h64 : bs.length = 64 := hL bs (List.mem_iff_getElem?.2 ⟨i, hi⟩)
  rw [hbs] at hblk
  refine ⟨⟨g, 0, none⟩, .some ⟨b, 0, none⟩, 64, rfl, (h.own.lt g rfl).1, ?_, .of_row (.of_cells hblk), fun s e => by cases e; exact hlo⟩
  rw [h64]
  exact h.own.cells (g := g) rfl i (rowVal b) (by rw [List.getElem?_map, hb]; rfl)

theorem one_cell (w : World) (o : Obj) (a : Value) (t : TypeId) : ∀ (j : Nat) u, [a][j]? = some u → ((w.alloc o).alloc (.cells #[a] t)).cell? ((⟨w.heap.size + 1, 0, none⟩ : Addr).add j) = some u := by
  intro j u hj
  have hadd : (⟨w.heap.size + 1, 0, none⟩ : Addr).add j = ⟨(w.alloc o).heap.size, j, none⟩ := by
    rw [heap_alloc_size]
    unfold Addr.add
    split <;> simp_all
  rw [hadd, cellOf (heap_alloc_new _ _)]
  simpa using hj

theorem Gathered.more {lo : Nat} {w w7 : World} {g c : Nat} {bl : List Nat} {at_ : Int} {D : DK} {k : Nat} {v' : Value} (h : Gathered lo w (.slice (some ⟨g, 0, none⟩) bl.length c) bl (rowsTo at_ D.get k)) (hout : ¬ (at_ ≤ (k : Int) ∧ (k : Int) < at_ + 199))
    (hown : w7.ownsRow lo 32 1 v' (bl.length + 1) (bl.map rowVal ++ [rowVal w.heap.size])) (hgr : ((w.alloc (.cells (bvs (D.get k)) 76)).alloc (.cells #[rowVal w.heap.size] 32)).grownBy w7 (Value.slice (some ⟨g, 0, none⟩) bl.length c).ownBlock)
    (hnil : v' = .slice none 0 0 ↔ (Value.slice (some ⟨g, 0, none⟩) bl.length c) = .slice none 0 0 ∧ 1 = 0) (hlo : lo ≤ w.heap.size) : Gathered lo w7 v' (bl ++ [w.heap.size]) (rowsTo at_ D.get (k + 1)) := by
  have hgown : ∃ cur, w.heap[g]? = some (.cells cur 32 (0, 0)) := by
    rcases h.own.2 with ⟨e, _⟩ | ⟨g', cap, cur, e, _, hg, _⟩
    · cases e
    · cases e; exact ⟨cur, hg⟩
  obtain ⟨cur, hcur⟩ := hgown
  have k2 := ((Only.refl (fun _ => False) w).alloc (.cells (bvs (D.get k)) 76)).alloc (.cells #[rowVal w.heap.size] 32)
  have hkeep : ∀ (b : Nat) o, ((w.alloc (.cells (bvs (D.get k)) 76)).alloc (.cells #[rowVal w.heap.size] 32)).heap[b]? = some o → b ≠ g → w7.heap[b]? = some o := fun b o hb hne => by
    rw [hgr.block b (lt_of_heap hb) (fun e => hne (by simpa [Value.ownBlock] using e))]
    exact hb
  rw [rowsTo_out hout]
  refine ⟨by simpa using hown, ?_, by simp [h.len], fun i b hi => ?_⟩
  · rcases hown.2 with ⟨_, e⟩ | ⟨g', cap, cur', e, _⟩
    · omega
    · exact ⟨g', cap, by simpa using e⟩
  · by_cases hil : i < bl.length
    · rw [List.getElem?_append_left hil] at hi
      obtain ⟨h1, h2⟩ := h.rows i b hi
      refine ⟨h1, ?_⟩
      rw [getD_append_lt _ _ _ _ (by rw [← h.len]; exact hil)]
      refine hkeep b _ (k2.keeps h2 (fun e => e)) (fun e => ?_)
      subst e
      rw [hcur] at h2
      injection h2 with h2
      injection h2 with _ h2 _
      exact absurd h2 (by decide)
    · rw [List.getElem?_append_right (by omega)] at hi
      have hib : i = bl.length := by
        rcases Nat.lt_or_ge bl.length i with h1 | h1
        · rw [List.getElem?_eq_none (by simp; omega)] at hi; cases hi
        · omega
      subst hib
      simp at hi
      subst hi
      refine ⟨hlo, ?_⟩
      rw [h.len, getD_append_len]
      refine hkeep _ _ ?_ (fun e => by rw [← e] at hcur; exact absurd (lt_of_heap hcur) (Nat.lt_irrefl _))
      rw [heap_alloc_old _ _ (by simp)]
      exact heap_alloc_new _ _

set_option maxHeartbeats 2000000 in
theorem rows_calls {B : Nat} {w0 w : World} {p r : Nat} {D : DK} (h : DSt B w0 w p r D) (at_ len m : Int) (hf : Fit D len m) (ha : 0 ≤ at_) (ha2 : at_ ≤ 4096) (hl : 0 ≤ len) (hl2 : len ≤ 4096) :
    Calls Try.prog 18 #[.pointer (some ⟨p, 0, none⟩), .int .i64 at_] w fun e w' => ∃ v, e = .returned (.tuple #[v, .bool true]) ∧ RowsAt w.heap.size w' v (rowsTo at_ D.get len.toNat) ∧ DSt B w0 w' p r D ∧ Only (fun _ => False) w w' := by
  have S := Lib.hid h
  have F := Lib.hid hf
  obtain ⟨i0, hi0⟩ := rows_info
  have HI := Lib.hid hi0
  have hw1 : IntKind.i64.wrap (at_ + 199) = at_ + 199 := IntWalk.i64_in _ (by omega)
  clear h hf hi0
  go_enter Try.func18, Try.ntmps18
  go_wp2_with fail
  go_loopw [7, 6] (fun i v wr => ∃ (k : Nat) (bl : List Nat), i = .int .i64 k ∧ (k : Int) ≤ len ∧ Only (fun _ => False) w wr ∧ Gathered w.heap.size wr v bl (rowsTo at_ D.get k)) (fun i _ _ => len.toNat - (intOf i).toNat)
  case atStart =>
    refine ⟨0, [], rfl, hl, (Only.refl _ w).alloc _, ⟨?_, ⟨_, _, rfl⟩, rfl, fun i b e => by simp at e⟩⟩
    exact World.ownsRow_made w #[] 0 (Nat.le_refl _) (by decide) rfl
  case round =>
    obtain ⟨k, bl, rfl, hk, ho, hg⟩ := hrel
    have O := Lib.hid ho
    have G := Lib.hid hg
    have SS := Lib.hid (S.out.same ho)
    obtain ⟨g, c, hv⟩ := hg.shape
    subst hv
    clear ho hg
    have hlc := len_calls wr p r D SS.out.disk
    rw [F.out.len] at hlc
    have HLC := Lib.hid hlc
    clear hlc
    by_cases hlt : (k : Int) < len
    · by_cases hin : at_ ≤ (k : Int) ∧ (k : Int) < at_ + 199
      · have G' := Lib.hid (show Gathered w.heap.size wr (.slice (some ⟨g, 0, none⟩) bl.length c) bl (rowsTo at_ D.get (k + 1)) by rw [rowsTo_own hin]; exact G.out)
        obtain ⟨hin1, hin2⟩ := hin
        go_wp2_with fail
        refine HLC.out.mono ?_
        rintro e w5 ⟨rfl, rfl⟩
        go_wp2_with fail
        go_roundw
        case rel => exact ⟨k + 1, bl, by go_num, by omega, O.out, G'.out⟩
        case measure => simp [intOf]; omega
      · have HOUT := Lib.hid hin
        have hcase : (k : Int) < at_ ∨ (at_ ≤ (k : Int) ∧ at_ + 199 ≤ (k : Int)) := by omega
        clear hin
        have hrd := read_calls wr p r D k SS.out.disk (code_on F.out.off (by omega) (by rw [F.out.len]; exact hlt))
        have HRD := Lib.hid hrd
        have hll : (rowsTo at_ D.get k).length ≤ 4096 := Nat.le_trans (rowsTo_le at_ D.get k) (by omega)
        have hbl : bl.length ≤ 4096 := by rw [G.out.len]; exact hll
        clear hrd hll
        rcases hcase with hc1 | ⟨hc1, hc2⟩
        · go_wp2_with fail
          refine HLC.out.mono ?_
          rintro e w5 ⟨rfl, rfl⟩
          go_wp2_with fail
          refine HRD.out.mono ?_
          rintro e w6 ⟨rfl, rfl⟩
          go_wp2_with (at_builtin; refine wpList_append_own _ rfl (.tmp 34) (.tmp 36) 36 rfl w.heap.size 32 i0 (.slice none 0 0) 1 24 Try.underlying36 HI.out.1 HI.out.2.1 HI.out.2.2.1 HI.out.2.2.2 rfl (by decide) _ _ _ rfl ((G.out.own.alloc _).alloc _) ⟨wr.heap.size + 1, 0, none⟩ 1 1 [rowVal wr.heap.size] rfl rfl (one_cell _ _ _ _) (by simp [rowVal, Value.oneCell']) (by unfold maxLen; omega) (by omega) (by have := O.out.size; simp; omega) ?_; intro v' w7 hown hgr hnil)
          have O7 := Lib.hid (((O.out.alloc (.cells (bvs (D.get k)) 76)).alloc (.cells #[rowVal wr.heap.size] 32)).grown hgr (fun q hq => Or.inr (G.out.own.lt q hq).1))
          have G7 := Lib.hid (G.out.more HOUT.out hown hgr hnil O.out.size)
          clear hown hgr hnil
          go_wp2_with fail
          go_roundw
          case rel => exact ⟨k + 1, bl ++ [wr.heap.size], by go_num, by omega, O7.out, G7.out⟩
          case measure => simp [intOf]; omega
        · go_wp2_with fail
          refine HLC.out.mono ?_
          rintro e w5 ⟨rfl, rfl⟩
          go_wp2_with fail
          refine HRD.out.mono ?_
          rintro e w6 ⟨rfl, rfl⟩
          go_wp2_with (at_builtin; refine wpList_append_own _ rfl (.tmp 34) (.tmp 36) 36 rfl w.heap.size 32 i0 (.slice none 0 0) 1 24 Try.underlying36 HI.out.1 HI.out.2.1 HI.out.2.2.1 HI.out.2.2.2 rfl (by decide) _ _ _ rfl ((G.out.own.alloc _).alloc _) ⟨wr.heap.size + 1, 0, none⟩ 1 1 [rowVal wr.heap.size] rfl rfl (one_cell _ _ _ _) (by simp [rowVal, Value.oneCell']) (by unfold maxLen; omega) (by omega) (by have := O.out.size; simp; omega) ?_; intro v' w7 hown hgr hnil)
          have O7 := Lib.hid (((O.out.alloc (.cells (bvs (D.get k)) 76)).alloc (.cells #[rowVal wr.heap.size] 32)).grown hgr (fun q hq => Or.inr (G.out.own.lt q hq).1))
          have G7 := Lib.hid (G.out.more HOUT.out hown hgr hnil O.out.size)
          clear hown hgr hnil
          go_wp2_with fail
          go_roundw
          case rel => exact ⟨k + 1, bl ++ [wr.heap.size], by go_num, by omega, O7.out, G7.out⟩
          case measure => simp [intOf]; omega
    · have hkl : (k : Int) = len := by omega
      have hk2 : k = len.toNat := by omega
      have R := Lib.hid (G.out.at (fun l hl => by
        unfold rowsTo at hl
        obtain ⟨i, -, rfl⟩ := List.mem_map.1 hl
        exact DK.get_long S.out.disk _) (Nat.le_trans (rowsTo_le at_ D.get k) (by omega)))
      rw [hk2] at R
      clear hk2
      go_wp2_with fail
      refine HLC.out.mono ?_
      rintro e w5 ⟨rfl, rfl⟩
      go_wp2_with fail
      go_ret2
      exact ⟨_, rfl, R.out, SS.out, O.out⟩
end Go.Proofs.Ytpmlmjbhgonegaa
