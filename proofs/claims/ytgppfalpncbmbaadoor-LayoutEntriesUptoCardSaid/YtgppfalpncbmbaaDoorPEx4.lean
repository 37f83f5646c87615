-- printed by wip/printx (a program of this session's, over the kit's print)
import Derived.Test.YtgppfalpncbmbaaDoorPEx0
import Derived.Test.YtgppfalpncbmbaaDoorPEx2
import Derived.Test.YtgppfalpncbmbaaDoorPEx3
import Derived.Test.YtgppfalpncbmbaaDoorPEx8
namespace Go.Proofs.YtgppfalpncbmbaaDoor.PE
open Go.RowKit Go.Proofs.YtgppfalpncbmbaaDoorW.PrintWords Go.Proofs.YtgppfalpncbmbaaDoorW.PrintLast Go.Proofs.YtgppfalpncbmbaaDoorW.PrintMore
attribute [local go_sem] max2_int min2_int max_two min_two max_three min_three max_four min_four Go.Proofs.YtgppfalpncbmbaaDoor.PxMore.isSome_setCell   -- for this text's walks alone
set_option linter.unusedVariables false
set_option linter.unusedSimpArgs false

/-! ### layout_PutNode: function 20 -/

/-- A row of bytes with a number in two of them. -/
def putNum (l : List Int) (off : Nat) (v : Int) : List Int := (l.set off (v / 256 % 256)).set (off + 1) (v % 256)
theorem putNum_len (l : List Int) (off : Nat) (v : Int) : (putNum l off v).length = l.length := by simp [putNum]
set_option maxHeartbeats 1000000 in
theorem number_cells (g off n c : Nat) (v : Int) (w : World) (x0 x1 : Value) (h0 : w.cell? ⟨g, off, none⟩ = some x0) (f0 : w.frozen? ⟨g, off, none⟩ = false) (h1 : w.cell? ⟨g, off + 1, none⟩ = some x1) (f1 : w.frozen? ⟨g, off + 1, none⟩ = false) (hn : 2 ≤ n) :
    Calls Tryd.prog 42 #[.slice (some ⟨g, off, none⟩) n c, .int .i64 v] w fun e w' => e = .returned (.tuple #[]) ∧ w' = (w.setCell ⟨g, off, none⟩ (.int .u8 (v / 256 % 256))).setCell ⟨g, off + 1, none⟩ (.int .u8 (v % 256)) := by
  have n0 : 0 < n := by omega
  have n1 : 1 < n := by omega
  have h1' : (w.setCell ⟨g, off, none⟩ (.int .u8 (v / 256 % 256))).cell? ⟨g, off + 1, none⟩ = some x1 := (World.cell?_setCell_other w (⟨g, off, none⟩ : Addr) ⟨g, off + 1, none⟩ _ (by simp)).trans h1
  clear h1
  clear hn
  go_enter Tryd.func42, Tryd.ntmps42
  go_wp2
  all_goals (first | go_end0 | ((try simp only [Exit.inBlock, Exit.then]); refine bodyPost_ret (results_none rfl _ _ _) rfl ?_))
  all_goals exact ⟨rfl, rfl⟩
theorem number_row {g N C off n c : Nat} {v : Int} {w : World} {base : Nat} {ok : Nat → Prop} {l : List Int} (HO : (Kd.int .u8).R 5 w base ok (.slice (some ⟨g, 0, none⟩) N C) l) (hi : off + 2 ≤ l.length) (hn : 2 ≤ n) :
    Calls Tryd.prog 42 #[.slice (some ⟨g, off, none⟩) n c, .int .i64 v] w fun e w' => e = .returned (.tuple #[]) ∧ (Kd.int .u8).R 5 w' base ok (.slice (some ⟨g, 0, none⟩) N C) (putNum l off v) ∧ w.grownBy w' (some g) := by
  have hN := (Kd.R_reads' HO).1
  obtain ⟨h0, f0⟩ := Kd.R_celln 0 HO (off : Int) (by omega) (by omega)
  obtain ⟨h1, f1⟩ := Kd.R_celln 0 HO ((off + 1 : Nat) : Int) (by omega) (by omega)
  rw [Int.toNat_natCast] at h0 f0 h1 f1
  refine (number_cells g off n c v w _ _ h0 f0 h1 f1 hn).mono ?_
  rintro e w' ⟨rfl, rfl⟩
  have p1 := Kd.R_putg HO (off : Int) (v / 256 % 256)
  have p2 := Kd.R_putg p1.1 ((off + 1 : Nat) : Int) (v % 256)
  rw [Int.toNat_natCast] at p1 p2
  rw [Int.toNat_natCast] at p2
  exact ⟨rfl, p2.1, (World.grownBy.trans p1.2 p2.2)⟩
/-- A number that can be a block's. -/
def blkB (n : Int) : Bool := decide (0 < n) && decide (n < 4096)
theorem block_is (n : Int) : layout_block.f n = some (blkB n) := by
  unfold layout_block.f blkB
  by_cases h : n > 0
  · simp [h]
  · simp [h]
theorem w64 (x y : Int) (h : x = y) (h0 : 0 ≤ y) (h1 : y < 9223372036854775808) : wrap64 x = y := by subst h; unfold wrap64; omega
theorem ev_bad_l0 (l : List Int) (hz : l.length ≤ 4611686018427387904) : ∀ (d i : Nat), l.length - i ≤ d → i ≤ l.length → ∃ v, Ev (fun k => slices_IndexFunc_int_int.l0 k l (l.length : Int) (i : Int)) v ∧ decide (v ≥ 0) = (l.drop i).any (fun b => !blkB b) := by
  have hend : ∀ i : Nat, i = l.length → ∃ v, Ev (fun k => slices_IndexFunc_int_int.l0 k l (l.length : Int) (i : Int)) v ∧ decide (v ≥ 0) = (l.drop i).any (fun b => !blkB b) := by
    intro i hi
    refine ⟨-1, Ev.step (f := fun _ => some (-1)) (fun k => ?_) (Ev.now _), ?_⟩
    · simp only [slices_IndexFunc_int_int.l0]
      rw [if_neg (by omega)]
    · rw [List.drop_eq_nil_iff.2 (by omega)]; rfl
  intro d
  induction d with
  | zero => intro i hd hi; exact hend i (by omega)
  | succ d ih =>
    intro i hd hi
    by_cases hlt : i < l.length
    · have hrd : rd l (i : Int) = l[i] := by
        unfold rd
        simp [hlt]
      rw [List.drop_eq_getElem_cons hlt, List.any_cons]
      cases hx : blkB l[i] with
      | false =>
        refine ⟨(i : Int), Ev.step (f := fun _ => some (i : Int)) (fun k => ?_) (Ev.now _), ?_⟩
        · simp only [slices_IndexFunc_int_int.l0]
          rw [if_pos (by omega), if_pos (by omega), if_pos (by omega), hrd]
          unfold layout_PutNode_1.f
          rw [block_is, Option.bind_some, Option.bind_some, hx]
          rfl
        · rw [decide_eq_true (by omega)]; rfl
      | true =>
        obtain ⟨v, hv, e⟩ := ih (i + 1) (by omega) (by omega)
        refine ⟨v, Ev.step (fun k => ?_) hv, ?_⟩
        · simp only [slices_IndexFunc_int_int.l0]
          rw [if_pos (by omega), if_pos (by omega), if_pos (by omega), hrd]
          unfold layout_PutNode_1.f
          rw [block_is, Option.bind_some, Option.bind_some, hx]
          simp only [Bool.not_true, Bool.false_eq_true, if_false]
          rw [w64 ((i : Int) + 1) ((i + 1 : Nat) : Int) (by omega) (by omega) (by omega)]
        · rw [e]; rfl
    · exact hend i (by omega)
theorem ev_bad (l : List Int) (hz : l.length ≤ 4611686018427387904) : Ev (fun k => slices_ContainsFunc_int_int.f k l) (l.any (fun b => !blkB b)) := by
  obtain ⟨v, hv, e⟩ := ev_bad_l0 l hz l.length 0 (by omega) (by omega)
  rw [List.drop_zero] at e
  rw [← e]
  unfold slices_ContainsFunc_int_int.f slices_IndexFunc_int_int.f
  exact Ev.bind hv (Ev.now _)
/-- Numbers laid one behind the other. -/
def putAll (b : List Int) (off : Nat) : List Int → List Int
  | [] => b
  | v :: r => putAll (putNum b off v) (off + 2) r
def nodeBytes (k m s : Int) (l : List Int) (mo : Int) : List Int := putAll (putAll ((List.replicate 32 0).set 0 (k % 256)) 1 [m, s, mo]) 7 (l.take 6)
def moreBytes (l : List Int) : List Int := putAll (List.replicate 64 0) 0 (l.drop 6)
def nodeOk (k m s : Int) (l : List Int) (mo : Int) : Bool :=
  !(decide (blocksF k s < 0) || decide (blocksF k s ≠ l.length) || l.any (fun b => !blkB b) || decide (m < 0) || decide (m > 4095) || (decide (blocksF k s > 6) != blkB mo) || (!decide (blocksF k s > 6) && decide (mo ≠ 0)))
def layout_PutNode.f (a0_0 a0_1 a0_2 : Int) (l0_3 : List Int) (a0_4 : Int) : Option (List Int × List Int × Int) :=
  if l0_3.length ≤ 4611686018427387904 then some (if nodeOk a0_0 a0_1 a0_2 l0_3 a0_4 then (nodeBytes a0_0 a0_1 a0_2 l0_3 a0_4, if blocksF a0_0 a0_2 > 6 then moreBytes l0_3 else [], 0) else ([], [], 1)) else none
set_option maxHeartbeats 4000000 in
set_option maxRecDepth 100000 in
theorem put_bad (a0_0 a0_1 a0_2 : Int) (A0_3 : Option Addr) (c0_3 : Nat) (l0_3 : List Int) (a0_4 : Int) (w : World) (hr0_3 : Kd.C (Kd.int .i64) w A0_3 l0_3.length l0_3) (hc0_3 : l0_3.length ≤ c0_3) (hamb : Amb w) (hz : l0_3.length ≤ 4611686018427387904)
    (hbad : nodeOk a0_0 a0_1 a0_2 l0_3 a0_4 = false) :
    Calls Tryd.prog 20 #[.agg #[.int .i64 a0_0, .int .i64 a0_1, .int .i64 a0_2, .slice A0_3 l0_3.length c0_3, .int .i64 a0_4]] w fun e w' => e = .returned (.tuple #[.slice none 0 0, .slice none 0 0, .int .i64 1]) ∧ Below w.heap.size w w' := by
  have hu37 := Tryd.underlying37
  have HR := Aside0.mk hr0_3
  have HC := Aside0.mk hc0_3
  have HAMB := Aside0.mk hamb
  obtain ⟨k, hk⟩ := Ev.rounds (ev_bad l0_3 hz)
  have HK := Aside0.mk hk
  clear hr0_3 hc0_3 hamb hk
  obtain ⟨n, hn⟩ : ∃ n, blocksF a0_0 a0_2 = n := ⟨_, rfl⟩
  have HN := Aside0.mk hn
  unfold nodeOk at hbad
  rw [hn] at hbad
  clear hn
  have HBAD := Aside0.mk hbad
  clear hbad
  obtain ⟨bad, hb⟩ : ∃ b, (l0_3.any fun b => !blkB b) = b := ⟨_, rfl⟩
  rw [hb] at HK HBAD
  clear hb
  obtain ⟨bm, hbm⟩ : ∃ b, blkB a0_4 = b := ⟨_, rfl⟩
  have HBM := Aside0.mk ((block_is a0_4).trans (congrArg some hbm))
  rw [hbm] at HBAD
  clear hbm
  go_enter Tryd.func20, Tryd.ntmps20
  go_wp2_with (first
    | (go_at_call 32; refine (layout_blocks.calls a0_0 a0_2 n _ (Amb.below HAMB.out (by repeat (first | exact Below.refl _ _ | apply below_alloc | apply pw_below_drewN | apply below_drew1))) (by unfold layout_blocks.f; rw [HN.out])).mono ?_; rintro e w' ⟨rfl, nd, rfl⟩)
    | (go_at_call 39; refine (slices_ContainsFunc_int_int.calls k A0_3 c0_3 l0_3 _ _ ?s1 ?s2 HK.out).mono ?_; (case s1 => repeat (first | exact HR.out | (with_reducible refine Kd.C_alloc ?_ _) | (with_reducible refine Kd.C_drewN ?_ _) | (with_reducible refine Kd.C_drew ?_))); (case s2 => exact HC.out); rintro e w' ⟨rfl, nd2, rfl⟩)
    | (go_at_call 41; refine (layout_block.calls a0_4 bm _ HBM.out).mono ?_; rintro e w' ⟨rfl, nd3, rfl⟩))
  all_goals first
    | ((try simp only [Exit.inBlock, Exit.then]); refine bodyPost_ret (results_tmp3 rfl _ _ _) rfl ?_; exact ⟨rfl, by repeat (first | exact Below.refl _ _ | apply below_alloc | apply pw_below_drewN | apply below_drew1)⟩)
    | (exfalso; have h_ := HBAD.out; clear HBAD HK HN HBM HR HC HAMB hu37; subst_vars; (try simp only [Bool.not_eq_false', Bool.or_eq_true, decide_eq_true_eq, bne_iff_ne, ne_eq, Bool.and_eq_true, Bool.not_eq_true'] at h_); (try simp_all); (try omega); done)
theorem infoU8 : (Tryd.prog.info? 5).map (fun i => (i.zero, i.size, i.bytes)) = some (some (.int .u8 0), 1, 1) := by kernel_rfl
/-- The node's box and its row of bytes, while it is filled. -/
structure PSt (w wr : World) (bx : Array Value) (g c : Nat) (l : List Int) : Prop where
  row : (Kd.int .u8).R 5 wr w.heap.size (fun k => k ≠ w.heap.size) (.slice (some ⟨g, 0, none⟩) 32 c) l
  len : l.length = 32
  box : wr.heap[w.heap.size]? = some (.cells bx 37 (0, 0))
  bel : Below w.heap.size w wr
theorem PSt.drewN {w wr : World} {bx : Array Value} {g c : Nat} {l : List Int} (h : PSt w wr bx g c l) (n : Nat) : PSt w (wr.drewN n) bx g c l := ⟨Kd.R_drewN h.row n, h.len, h.box, pw_below_drewN h.bel n⟩
theorem PSt.ne {w wr : World} {bx : Array Value} {g c : Nat} {l : List Int} (h : PSt w wr bx g c l) : g ≠ w.heap.size := h.row.1 g rfl
theorem PSt.ge {w wr : World} {bx : Array Value} {g c : Nat} {l : List Int} (h : PSt w wr bx g c l) : w.heap.size ≤ g := Kd.R_base h.row g rfl
theorem PSt.field {w wr : World} {bx : Array Value} {g c : Nat} {l : List Int} (h : PSt w wr bx g c l) (i : Nat) {v : Value} (hv : bx[i]? = some v) : wr.cell? ⟨w.heap.size, i, none⟩ = some v := by
  have hb := h.box
  unfold World.cell?
  rw [hb]
  simpa using hv
theorem PSt.num {w wr w' : World} {bx : Array Value} {g c : Nat} {l l' : List Int} (h : PSt w wr bx g c l) (hr : (Kd.int .u8).R 5 w' w.heap.size (fun k => k ≠ w.heap.size) (.slice (some ⟨g, 0, none⟩) 32 c) l') (hl : l'.length = l.length) (hg : wr.grownBy w' (some g)) : PSt w w' bx g c l' := by
  have hlt : w.heap.size < wr.heap.size := (Array.getElem?_eq_some_iff.1 h.box).1
  refine ⟨hr, hl.trans h.len, (hg.block _ hlt (by simp [h.ne.symm])).trans h.box, ?_⟩
  exact pw_below_grown h.bel (some g) h.bel.size hg (fun k hk => by obtain rfl := Option.some.inj hk; exact h.ge)
theorem PSt.start (w : World) {w1 : World} (bx : Array Value) {n g c : Nat} (hg : ((w.alloc (.cells bx 37)).drewN n).grownBy w1 none) (hb : Below w.heap.size w w1) (ho : (Kd.int .u8).R 5 w1 w.heap.size (fun k => k ≠ w.heap.size) (.slice (some ⟨g, 0, none⟩) (List.replicate (32 : Int).toNat (0 : Int)).length c) (List.replicate (32 : Int).toNat 0)) : PSt w w1 bx g c (List.replicate 32 0) := by
  refine ⟨ho, by simp, ?_, hb⟩
  have h1 : ((w.alloc (.cells bx 37)).drewN n).heap[w.heap.size]? = some (.cells bx 37 (0, 0)) := blk_new w _
  exact (hg.block w.heap.size (Array.getElem?_eq_some_iff.1 h1).1 (by simp)).trans h1
theorem PSt.cell {w wr : World} {bx : Array Value} {g c : Nat} {l : List Int} (h : PSt w wr bx g c l) (i : Nat) (hi : i < 32) : wr.cell? ⟨g, i, none⟩ = some (.int .u8 (rdOf 0 l (i : Int))) ∧ wr.frozen? ⟨g, i, none⟩ = false := by
  have := Kd.R_celln 0 h.row (i : Int) (by omega) (by omega)
  rwa [Int.toNat_natCast] at this
theorem PSt.put {w wr : World} {bx : Array Value} {g c : Nat} {l : List Int} (h : PSt w wr bx g c l) (i : Nat) (x : Int) : PSt w (wr.setCell ⟨g, i, none⟩ (.int .u8 x)) bx g c (l.set i x) := by
  have := Kd.R_putg h.row (i : Int) x
  rw [Int.toNat_natCast] at this
  exact h.num this.1 (by simp) this.2
theorem PSt.alloc {w wr : World} {bx : Array Value} {g c : Nat} {l : List Int} (h : PSt w wr bx g c l) (o : Obj) : PSt w (wr.alloc o) bx g c l :=
  ⟨Kd.R_alloc h.row o, h.len, ((World.grownBy_alloc wr o none).block _ (Array.getElem?_eq_some_iff.1 h.box).1 (by simp)).trans h.box, below_alloc h.bel o⟩
theorem size_set (w : World) (p : Addr) (v : Value) : (w.setCell p v).heap.size = w.heap.size := by simp [World.setCell]
/-- The first loop: the mode, the size, the place of the others. -/
def L1 (w : World) (bx : Array Value) (g c : Nat) (b0 : List Int) (gl : Nat) (x y z : Int) (j : Nat) (wr : World) : Prop :=
  PSt w wr bx g c (putAll b0 1 ([x, y, z].take j)) ∧ wr.heap[gl]? = some (.cells #[.int .i64 x, .int .i64 y, .int .i64 z] 3 (0, 0)) ∧ gl ≠ g
theorem putAll_snoc : ∀ (l : List Int) (b : List Int) (off : Nat) (v : Int), putAll b off (l ++ [v]) = putNum (putAll b off l) (off + 2 * l.length) v
  | [], b, off, v => rfl
  | a :: l, b, off, v => by
    rw [List.cons_append, putAll, putAll, putAll_snoc l]
    congr 1
    simp only [List.length_cons]
    omega
theorem putAll_len : ∀ (l : List Int) (b : List Int) (off : Nat), (putAll b off l).length = b.length
  | [], _, _ => rfl
  | v :: l, b, off => by rw [putAll, putAll_len l, putNum_len]
theorem PSt.call {w wr : World} {bx : Array Value} {g c : Nat} {l : List Int} (h : PSt w wr bx g c l) (off n cc : Nat) (v : Int) (hi : off + 2 ≤ 32) (hn : 2 ≤ n) :
    Calls Tryd.prog 42 #[.slice (some ⟨g, off, none⟩) n cc, .int .i64 v] wr fun e w' => e = .returned (.tuple #[]) ∧ PSt w w' bx g c (putNum l off v) ∧ wr.grownBy w' (some g) := by
  refine (number_row h.row (by have := h.len; omega) hn).mono ?_
  rintro e w' ⟨rfl, hr, hg⟩
  exact ⟨rfl, h.num hr (putNum_len _ _ _) hg, hg⟩
theorem L1.call {w wr : World} {bx : Array Value} {g c gl : Nat} {b0 : List Int} {x y z : Int} {j : Nat} (h : L1 w bx g c b0 gl x y z j wr) (off n cc : Nat) (v : Int) (hj : j < 3) (ho : off = 1 + 2 * j) (hv : [x, y, z][j]? = some v) (hn : 2 ≤ n) :
    Calls Tryd.prog 42 #[.slice (some ⟨g, off, none⟩) n cc, .int .i64 v] wr fun e w' => e = .returned (.tuple #[]) ∧ L1 w bx g c b0 gl x y z (j + 1) w' := by
  obtain ⟨hp, hl, hne⟩ := h
  subst ho
  refine (hp.call (1 + 2 * j) n cc v (by omega) hn).mono ?_
  rintro e w' ⟨rfl, hp', hg⟩
  refine ⟨rfl, ?_, (hg.block gl (Array.getElem?_eq_some_iff.1 hl).1 (by simp [hne])).trans hl, hne⟩
  rw [List.take_add_one, hv]
  simp only [Option.toList_some]
  rw [putAll_snoc, List.length_take, Nat.min_eq_left (by simp; omega)]
  exact hp'
theorem L1.lit {w wr : World} {bx : Array Value} {g c gl : Nat} {b0 : List Int} {x y z : Int} {j : Nat} (h : L1 w bx g c b0 gl x y z j wr) (i : Nat) (v : Int) (hv : [x, y, z][i]? = some v) : wr.cell? ⟨gl, i, none⟩ = some (.int .i64 v) := by
  unfold World.cell?
  rw [h.2.1]
  match i, hv with
  | 0, hv => simp at hv; simp [hv]
  | 1, hv => simp at hv; simp [hv]
  | 2, hv => simp at hv; simp [hv]
  | n + 3, hv => simp at hv
theorem PSt.step {w wr : World} {bx : Array Value} {g c : Nat} {b2 l : List Int} {b : Nat} (j off n cc : Nat) (h : PSt w wr bx g c (putAll b2 b (l.take j))) (ho : off = b + 2 * j) (hj : j < l.length) (hi : off + 2 ≤ 32) (hn : 2 ≤ n) :
    Calls Tryd.prog 42 #[.slice (some ⟨g, off, none⟩) n cc, .int .i64 (rd l (j : Int))] wr fun e w' => e = .returned (.tuple #[]) ∧ PSt w w' bx g c (putAll b2 b (l.take (j + 1))) := by
  subst ho
  refine (h.call (b + 2 * j) n cc _ hi hn).mono ?_
  rintro e w' ⟨rfl, hp', hg⟩
  refine ⟨rfl, ?_⟩
  have hv : l[j]? = some (rd l (j : Int)) := by
    unfold rd
    simp [hj]
  rw [List.take_add_one, hv]
  simp only [Option.toList_some]
  rw [putAll_snoc, List.length_take, Nat.min_eq_left (by omega)]
  exact hp'
theorem add_none (a : Addr) : a.add (0 : Int).toNat = a := by
  show a.add 0 = a
  cases a
  simp [Addr.add]
theorem PSt.grown {w wr w' : World} {bx : Array Value} {g c : Nat} {l : List Int} (h : PSt w wr bx g c l) {row : Option Nat} (hg : wr.grownBy w' row) (hne : row ≠ some g) (hnb : row ≠ some w.heap.size) (hge : ∀ k, row = some k → w.heap.size ≤ k) : PSt w w' bx g c l :=
  ⟨Kd.R_grown1 h.row rfl hg hne, h.len, (hg.block _ (Array.getElem?_eq_some_iff.1 h.box).1 (fun e => hnb e.symm)).trans h.box, pw_below_grown h.bel row h.bel.size hg hge⟩
/-- The second row of bytes beside: the places of the others. -/
structure QSt (w wr : World) (bx : Array Value) (g c : Nat) (l : List Int) (g2 c2 : Nat) (l2 : List Int) : Prop where
  p : PSt w wr bx g c l
  row2 : (Kd.int .u8).R 5 wr w.heap.size (fun k => k ≠ w.heap.size ∧ k ≠ g) (.slice (some ⟨g2, 0, none⟩) 64 c2) l2
  len2 : l2.length = 64
theorem QSt.start {w wr w1 : World} {bx : Array Value} {g c g2 c2 : Nat} {l : List Int} (h : PSt w wr bx g c l) (hg : wr.grownBy w1 none) (ho : (Kd.int .u8).R 5 w1 w.heap.size (fun k => k ≠ w.heap.size ∧ k ≠ g) (.slice (some ⟨g2, 0, none⟩) (List.replicate (64 : Int).toNat (0 : Int)).length c2) (List.replicate (64 : Int).toNat 0)) : QSt w w1 bx g c l g2 c2 (List.replicate 64 0) :=
  ⟨h.grown hg (by simp) (by simp) (by simp), ho, by simp⟩
theorem QSt.step {w wr : World} {bx : Array Value} {g c g2 c2 : Nat} {l l3 : List Int} (j off n cc : Nat) (h : QSt w wr bx g c l g2 c2 (putAll (List.replicate 64 0) 0 (l3.take j))) (ho : off = 2 * j) (hj : j < l3.length) (hi : off + 2 ≤ 64) (hn : 2 ≤ n) :
    Calls Tryd.prog 42 #[.slice (some ⟨g2, off, none⟩) n cc, .int .i64 (rd l3 (j : Int))] wr fun e w' => e = .returned (.tuple #[]) ∧ QSt w w' bx g c l g2 c2 (putAll (List.replicate 64 0) 0 (l3.take (j + 1))) := by
  subst ho
  refine (number_row h.row2 (by have := h.len2; omega) hn).mono ?_
  rintro e w' ⟨rfl, hr, hg⟩
  have h2 := h.row2.1 g2 rfl
  have h3 : w.heap.size ≤ g2 := Kd.R_base h.row2 g2 rfl
  have e1 : putAll (List.replicate 64 0) 0 (l3.take (j + 1)) = putNum (putAll (List.replicate 64 0) 0 (l3.take j)) (2 * j) (rd l3 (j : Int)) := by
    have hv : l3[j]? = some (rd l3 (j : Int)) := by
      unfold rd
      simp [hj]
    rw [List.take_add_one, hv]
    simp only [Option.toList_some]
    rw [putAll_snoc, List.length_take, Nat.min_eq_left (by omega), Nat.zero_add]
  refine ⟨rfl, ⟨h.p.grown hg (by simp [h2.2]) (by simp [h2.1]) (fun k hk => by obtain rfl := Option.some.inj hk; exact h3), ?_, ?_⟩⟩
  · rw [e1]; exact hr
  · rw [putAll_len]; simp
theorem QSt.rows {w wr : World} {bx : Array Value} {g c g2 c2 : Nat} {l l2 : List Int} (h : QSt w wr bx g c l g2 c2 l2) : (Kd.int .u8).R 5 wr w.heap.size (fun k => some k ≠ (Value.slice (some ⟨g2, 0, none⟩) 64 c2).ownBlock) (.slice (some ⟨g, 0, none⟩) 32 c) l ∧ (Kd.int .u8).R 5 wr w.heap.size (fun k => some k ≠ (Value.slice (some ⟨g, 0, none⟩) 32 c).ownBlock) (.slice (some ⟨g2, 0, none⟩) 64 c2) l2 := by
  have h2 := h.row2.1 g2 rfl
  refine ⟨Kd.R_mono (Kd.R_tight rfl h.p.row) (fun k hk e => ?_), Kd.R_mono (Kd.R_tight rfl h.row2) (fun k hk e => ?_)⟩
  · rw [e] at hk
    simp [Value.ownBlock] at hk
    exact h2.2 hk
  · rw [e] at hk
    simp [Value.ownBlock] at hk
    exact h2.2 hk.symm
theorem add_six (a : Addr) (j : Nat) : (a.add (6 * (Kd.int .i64).sz)).add j = ⟨a.block, a.off + 6 + j, none⟩ := by
  show (a.add 6).add j = _
  by_cases h : j = 0
  · subst h; simp [Addr.add]
  · simp [Addr.add, h]
theorem blocksF_le (k s : Int) : blocksF k s ≤ 38 := by
  unfold blocksF
  repeat' split
  all_goals omega
/-- What the node's being right comes to. -/
theorem nodeOk_parts {k m s : Int} {l : List Int} {mo : Int} (h : nodeOk k m s l mo = true) : blocksF k s = (l.length : Int) ∧ (l.any fun b => !blkB b) = false ∧ 0 ≤ m ∧ m ≤ 4095 ∧ decide ((l.length : Int) > 6) = blkB mo ∧ (¬ ((l.length : Int) > 6) → mo = 0) ∧ l.length ≤ 38 := by
  unfold nodeOk at h
  simp only [Bool.not_eq_true', Bool.or_eq_false_iff, decide_eq_false_iff_not, bne_eq_false_iff_eq, Bool.and_eq_false_iff, Bool.not_eq_false', decide_eq_true_eq, ne_eq, Decidable.not_not] at h
  obtain ⟨⟨⟨⟨⟨⟨h1, h2⟩, h3⟩, h4⟩, h5⟩, h6⟩, h7⟩ := h
  have h8 := blocksF_le k s
  rw [h2] at h6 h7
  exact ⟨h2, h3, by omega, by omega, h6, fun hn => h7.resolve_left hn, by omega⟩
attribute [local go_sem] max2_int min2_int max_two min_two
set_option maxHeartbeats 8000000 in
set_option maxRecDepth 100000 in
theorem put_ok (a0_0 a0_1 a0_2 : Int) (A0_3 : Option Addr) (c0_3 : Nat) (l0_3 : List Int) (a0_4 : Int) (w : World) (hr0_3 : Kd.C (Kd.int .i64) w A0_3 l0_3.length l0_3) (hc0_3 : l0_3.length ≤ c0_3) (hamb : Amb w)
    (hok : nodeOk a0_0 a0_1 a0_2 l0_3 a0_4 = true) :
    Calls Tryd.prog 20 #[.agg #[.int .i64 a0_0, .int .i64 a0_1, .int .i64 a0_2, .slice A0_3 l0_3.length c0_3, .int .i64 a0_4]] w fun e w' => ∃ v0_ v1_ : Value, e = .returned (.tuple #[v0_, v1_, .int .i64 0]) ∧ Kd.R (Kd.int .u8) 5 w' w.heap.size (fun k_ => some k_ ≠ (v1_ : Value).ownBlock) v0_ (nodeBytes a0_0 a0_1 a0_2 l0_3 a0_4) ∧ Kd.R (Kd.int .u8) 5 w' w.heap.size (fun k_ => some k_ ≠ (v0_ : Value).ownBlock) v1_ (if blocksF a0_0 a0_2 > 6 then moreBytes l0_3 else []) ∧ Below w.heap.size w w' := by
  have hu37 := Tryd.underlying37
  obtain ⟨g1, g2, g3, g4, g5, g6, g7⟩ := nodeOk_parts hok
  have HR := Aside0.mk hr0_3
  have HC := Aside0.mk hc0_3
  have HAMB := Aside0.mk hamb
  obtain ⟨k, hk⟩ := Ev.rounds (ev_bad l0_3 (by omega))
  rw [g2] at hk
  have HK := Aside0.mk hk
  rw [g1]
  have HN := Aside0.mk g1
  have HBM := Aside0.mk (block_is a0_4)
  rw [← g5] at HBM
  clear hr0_3 hc0_3 hamb hk hok g1 g2 g5
  have h38 : (l0_3.length : Int) ≤ 38 := by omega
  have HD := Aside0.mk (show nodeBytes a0_0 a0_1 a0_2 l0_3 a0_4 = putAll (putAll ((List.replicate 32 0).set 0 (a0_0 % 256)) 1 [a0_1, a0_2, a0_4]) 7 (l0_3.take 6) from rfl)
  obtain ⟨NB, hNB⟩ : ∃ x, nodeBytes a0_0 a0_1 a0_2 l0_3 a0_4 = x := ⟨_, rfl⟩
  rw [hNB] at HD ⊢
  clear hNB
  obtain ⟨MB, hMB⟩ : ∃ x, (if (l0_3.length : Int) > 6 then moreBytes l0_3 else []) = x := ⟨_, rfl⟩
  have HM := Aside0.mk hMB
  rw [hMB]
  clear hMB
  have d1 : decide ((l0_3.length : Int) < 0) = false := decide_eq_false (by omega)
  have d2 : decide (a0_1 < 0) = false := decide_eq_false (by omega)
  have d3 : decide (4095 < a0_1) = false := decide_eq_false (by omega)
  have d4 : (!decide (6 < (l0_3.length : Int)) && (a0_4 != 0)) = false := by
    by_cases h : 6 < (l0_3.length : Int)
    · rw [decide_eq_true h]; rfl
    · rw [g6 (by omega)]; simp
  obtain ⟨far, hfar⟩ : ∃ b, decide (6 < (l0_3.length : Int)) = b := ⟨_, rfl⟩
  have HF := Aside0.mk hfar
  have hfar' : decide ((l0_3.length : Int) > 6) = far := hfar
  rw [hfar] at d4
  rw [hfar'] at HBM
  clear g6 g3 g4 hfar'
  have d5 : far = true ∨ (far = false ∧ (a0_4 != 0) = false) := by
    cases far
    · exact .inr ⟨rfl, d4⟩
    · exact .inl rfl
  clear d4
  have hbelow : ∀ (o : Obj) (n : Nat), Below w.heap.size w ((w.alloc o).drewN n) := fun o n => pw_below_drewN (below_alloc (Below.refl _ _) o) n
  have hsize : ∀ (o : Obj) (n : Nat), ((w.alloc o).drewN n).heap.size = w.heap.size + 1 := fun o n => by rw [World.drewN]; simp
  have HBW := Aside0.mk hbelow
  have HSZ := Aside0.mk hsize
  clear hbelow hsize
  rcases d5 with rfl | ⟨rfl, d5⟩
  ·
    obtain ⟨ad, ead, -⟩ := Kd.at_int HR.out 0 (by omega) (by have := of_decide_eq_true hfar; omega)
    subst ead
    go_enter Tryd.func20, Tryd.ntmps20
    go_wp2_with (first
      | (go_at_call 32; refine (layout_blocks.calls a0_0 a0_2 (l0_3.length : Int) _ (Amb.below HAMB.out (by repeat (first | exact Below.refl _ _ | apply below_alloc | apply pw_below_drewN | apply below_drew1))) (by unfold layout_blocks.f; rw [HN.out])).mono ?_; rintro e w' ⟨rfl, nd, rfl⟩)
      | (go_at_call 39; refine (slices_ContainsFunc_int_int.calls k (some ad) c0_3 l0_3 _ _ ?s1 ?s2 HK.out).mono ?_; (case s1 => repeat (first | exact HR.out | (with_reducible refine Kd.C_alloc ?_ _) | (with_reducible refine Kd.C_drewN ?_ _) | (with_reducible refine Kd.C_drew ?_))); (case s2 => exact HC.out); rintro e w' ⟨rfl, nd2, rfl⟩)
      | (go_at_call 41; refine (layout_block.calls a0_4 true _ HBM.out).mono ?_; rintro e w' ⟨rfl, nd3, rfl⟩)
      | ((with_reducible refine gate_dst (N := 62) rfl ?_); refine Kd.R_make (Kd.int .u8) w.heap.size 5 rfl (N := 62) rfl 40 _ _ rfl 32 rfl rfl Tryd.underlying40 (.int .u8 0) 1 infoU8 rfl (by decide) (by omega) (0 : Int) (w0 := w) (ok := fun k => k ≠ w.heap.size) (okp := fun k => k ≠ w.heap.size) (by rfl) (fun _ hk => hk) ?hf (by omega) (by decide) ?hB ?hs ?_; (case hf => rw [HSZ.out]; omega); (case hB => exact HBW.out _ _); (case hs => rw [HSZ.out]; omega); intro v62 w62 ho62 hb62 hg62 hnew62; obtain ⟨g, cap, rfl, hge62, -, -⟩ := Kd.R_form ho62 (by decide); have hP := (PSt.start w _ hg62 hb62 ho62); clear ho62 hb62 hg62 hnew62 hge62; obtain ⟨hx0, hf0⟩ := hP.cell 0 (by decide); have hq0 := hP.field 0 rfl; have hq1 := hP.field 1 rfl; have hq2 := hP.field 2 rfl; have hq4 := hP.field 4 rfl; have hne := hP.ne; have hne2 := hP.ne.symm; have HP := Aside0.mk hP; clear hP))
    have HL := Aside0.mk (show L1 w #[.int .i64 a0_0, .int .i64 a0_1, .int .i64 a0_2, .slice (some ad) l0_3.length c0_3, .int .i64 a0_4] g cap ((List.replicate 32 0).set 0 (a0_0 % 256)) w62.heap.size a0_1 a0_2 a0_4 0 _ from ⟨(HP.out.put 0 (a0_0 % 256)).alloc (.cells #[.int .i64 a0_1, .int .i64 a0_2, .int .i64 a0_4] 3), (by have := blk_new (w62.setCell ⟨g, 0, none⟩ (.int .u8 (a0_0 % 256))) (.cells #[.int .i64 a0_1, .int .i64 a0_2, .int .i64 a0_4] 3); rwa [size_set] at this), (fun e => by have := Kd.R_lt HP.out.row g rfl; omega)⟩)
    obtain ⟨bx, hbx⟩ : ∃ b : Array Value, b = #[.int .i64 a0_0, .int .i64 a0_1, .int .i64 a0_2, .slice (some ad) l0_3.length c0_3, .int .i64 a0_4] := ⟨_, rfl⟩
    rw [← hbx] at HL
    have HBX := Aside0.mk hbx
    clear hbx
    obtain ⟨gl, hgl⟩ : ∃ x, w62.heap.size = x := ⟨_, rfl⟩
    rw [hgl] at HL
    (try rw [hgl])
    clear hx0 hf0 hq0 hq1 hq2 hq4 HP
    go_loopw [76] (fun i wr => ∃ j : Nat, j ≤ 3 ∧ i = .int .i64 j ∧ L1 w bx g cap ((List.replicate 32 0).set 0 (a0_0 % 256)) gl a0_1 a0_2 a0_4 j wr) (fun i _ => 3 - (Lib.intOf i).toNat)
    case atStart => exact ⟨0, by omega, rfl, HL.out⟩
    case round =>
      obtain ⟨j, hj3, rfl, hL⟩ := hrel
      have hcap := (Kd.R_reads' hL.1.row).2.1
      have hcases : j = 0 ∨ j = 1 ∨ j = 2 ∨ j = 3 := by omega
      rcases hcases with rfl | rfl | rfl | rfl
      ·
        have hl0 := hL.lit 0 a0_1 rfl
        have hc1 : ¬ cap = 1 := by omega
        have HL2 := Aside0.mk hL
        clear hL
        go_wp2_with (go_at_call 42; refine calls_of_args (args' := #[.slice (some ⟨g, 1, none⟩) 31 (cap - 1), .int .i64 a0_1]) (by first | rfl | simp [hc1]) ?_; refine (HL2.out.call 1 _ _ a0_1 (by decide) rfl rfl (by decide)).mono ?_; rintro e w' ⟨rfl, hn⟩; have HN2 := Aside0.mk hn; clear hn)
        exact ⟨⟨1, by omega, rfl, HN2.out⟩, by decide⟩
      ·
        have hl0 := hL.lit 1 a0_2 rfl
        have hc1 : ¬ cap = 3 := by omega
        have HL2 := Aside0.mk hL
        clear hL
        go_wp2_with (go_at_call 42; refine calls_of_args (args' := #[.slice (some ⟨g, 3, none⟩) 29 (cap - 3), .int .i64 a0_2]) (by first | rfl | simp [hc1]) ?_; refine (HL2.out.call 3 _ _ a0_2 (by decide) rfl rfl (by decide)).mono ?_; rintro e w' ⟨rfl, hn⟩; have HN2 := Aside0.mk hn; clear hn)
        exact ⟨⟨2, by omega, rfl, HN2.out⟩, by decide⟩
      ·
        have hl0 := hL.lit 2 a0_4 rfl
        have hc1 : ¬ cap = 5 := by omega
        have HL2 := Aside0.mk hL
        clear hL
        go_wp2_with (go_at_call 42; refine calls_of_args (args' := #[.slice (some ⟨g, 5, none⟩) 27 (cap - 5), .int .i64 a0_4]) (by first | rfl | simp [hc1]) ?_; refine (HL2.out.call 5 _ _ a0_4 (by decide) rfl rfl (by decide)).mono ?_; rintro e w' ⟨rfl, hn⟩; have HN2 := Aside0.mk hn; clear hn)
        exact ⟨⟨3, by omega, rfl, HN2.out⟩, by decide⟩
      ·
        have hb3 := hL.1.field 3 (by rw [HBX.out]; rfl)
        have hP := hL.1
        have e3 : putAll ((List.replicate 32 0).set 0 (a0_0 % 256)) 1 ([a0_1, a0_2, a0_4].take 3) = putAll ((List.replicate 32 0).set 0 (a0_0 % 256)) 1 [a0_1, a0_2, a0_4] := rfl
        rw [e3] at hP
        clear e3
        obtain ⟨b2, hb2⟩ : ∃ b, putAll ((List.replicate 32 0).set 0 (a0_0 % 256)) 1 [a0_1, a0_2, a0_4] = b := ⟨_, rfl⟩
        rw [hb2] at hP HD
        clear hb2
        have HP2 := Aside0.mk hP
        have hgt : 6 < (l0_3.length : Int) := of_decide_eq_true HF.out
        have hc6 : 6 ≤ c0_3 := by
          have := HC.out
          omega
        clear hL hP hcap
        go_wp2
        generalize Value.int .i64 ((3 : Nat) : Int) = z76
        go_loopw [95] (fun i wr => ∃ j : Nat, j ≤ 6 ∧ i = .int .i64 j ∧ PSt w wr bx g cap (putAll b2 7 (l0_3.take j))) (fun i _ => 6 - (Lib.intOf i).toNat)
        case atStart => exact ⟨0, by omega, rfl, HP2.out⟩
        case round =>
          obtain ⟨j, hj6, rfl, hP⟩ := hrel
          have hcap := (Kd.R_reads' hP.row).2.1
          have hcases : j = 0 ∨ j = 1 ∨ j = 2 ∨ j = 3 ∨ j = 4 ∨ j = 5 ∨ j = 6 := by omega
          rcases hcases with rfl | rfl | rfl | rfl | rfl | rfl | rfl
          ·
            obtain ⟨ad2, ead, had⟩ := Kd.at_int (Kd.C_below HR.out hP.bel) (0 : Int) (by omega) (by omega)
            obtain rfl := Option.some.inj ead
            rw [add_none] at had
            have hc1 : ¬ cap = 7 := by omega
            have HT := Aside0.mk hP
            clear hP
            go_wp2_with (go_at_call 42; refine calls_of_args (args' := #[.slice (some ⟨g, 7, none⟩) 25 (cap - 7), .int .i64 (rd l0_3 0)]) (by first | rfl | simp [hc1]) ?_; refine (PSt.step 0 7 _ _ HT.out rfl (by omega) (by decide) (by decide)).mono ?_; rintro e w' ⟨rfl, hn⟩; have HN2 := Aside0.mk hn; clear hn)
            go_roundw
            case rel => exact ⟨1, by omega, rfl, HN2.out⟩
            case measure => simp [Lib.intOf]
          ·
            obtain ⟨ad2, ead, had⟩ := Kd.at_int (Kd.C_below HR.out hP.bel) (1 : Int) (by omega) (by omega)
            obtain rfl := Option.some.inj ead
            replace had : wr.cell? (ad.add 1) = some (.int .i64 (rd l0_3 1)) := had
            have had2 := had
            simp [Addr.add] at had2
            have hc1 : ¬ cap = 9 := by omega
            have HT := Aside0.mk hP
            clear hP
            go_wp2_with (go_at_call 42; refine calls_of_args (args' := #[.slice (some ⟨g, 9, none⟩) 23 (cap - 9), .int .i64 (rd l0_3 1)]) (by first | rfl | simp [hc1]) ?_; refine (PSt.step 1 9 _ _ HT.out rfl (by omega) (by decide) (by decide)).mono ?_; rintro e w' ⟨rfl, hn⟩; have HN2 := Aside0.mk hn; clear hn)
            go_roundw
            case rel => exact ⟨2, by omega, rfl, HN2.out⟩
            case measure => simp [Lib.intOf]
          ·
            obtain ⟨ad2, ead, had⟩ := Kd.at_int (Kd.C_below HR.out hP.bel) (2 : Int) (by omega) (by omega)
            obtain rfl := Option.some.inj ead
            replace had : wr.cell? (ad.add 2) = some (.int .i64 (rd l0_3 2)) := had
            have had2 := had
            simp [Addr.add] at had2
            have hc1 : ¬ cap = 11 := by omega
            have HT := Aside0.mk hP
            clear hP
            go_wp2_with (go_at_call 42; refine calls_of_args (args' := #[.slice (some ⟨g, 11, none⟩) 21 (cap - 11), .int .i64 (rd l0_3 2)]) (by first | rfl | simp [hc1]) ?_; refine (PSt.step 2 11 _ _ HT.out rfl (by omega) (by decide) (by decide)).mono ?_; rintro e w' ⟨rfl, hn⟩; have HN2 := Aside0.mk hn; clear hn)
            go_roundw
            case rel => exact ⟨3, by omega, rfl, HN2.out⟩
            case measure => simp [Lib.intOf]
          ·
            obtain ⟨ad2, ead, had⟩ := Kd.at_int (Kd.C_below HR.out hP.bel) (3 : Int) (by omega) (by omega)
            obtain rfl := Option.some.inj ead
            replace had : wr.cell? (ad.add 3) = some (.int .i64 (rd l0_3 3)) := had
            have had2 := had
            simp [Addr.add] at had2
            have hc1 : ¬ cap = 13 := by omega
            have HT := Aside0.mk hP
            clear hP
            go_wp2_with (go_at_call 42; refine calls_of_args (args' := #[.slice (some ⟨g, 13, none⟩) 19 (cap - 13), .int .i64 (rd l0_3 3)]) (by first | rfl | simp [hc1]) ?_; refine (PSt.step 3 13 _ _ HT.out rfl (by omega) (by decide) (by decide)).mono ?_; rintro e w' ⟨rfl, hn⟩; have HN2 := Aside0.mk hn; clear hn)
            go_roundw
            case rel => exact ⟨4, by omega, rfl, HN2.out⟩
            case measure => simp [Lib.intOf]
          ·
            obtain ⟨ad2, ead, had⟩ := Kd.at_int (Kd.C_below HR.out hP.bel) (4 : Int) (by omega) (by omega)
            obtain rfl := Option.some.inj ead
            replace had : wr.cell? (ad.add 4) = some (.int .i64 (rd l0_3 4)) := had
            have had2 := had
            simp [Addr.add] at had2
            have hc1 : ¬ cap = 15 := by omega
            have HT := Aside0.mk hP
            clear hP
            go_wp2_with (go_at_call 42; refine calls_of_args (args' := #[.slice (some ⟨g, 15, none⟩) 17 (cap - 15), .int .i64 (rd l0_3 4)]) (by first | rfl | simp [hc1]) ?_; refine (PSt.step 4 15 _ _ HT.out rfl (by omega) (by decide) (by decide)).mono ?_; rintro e w' ⟨rfl, hn⟩; have HN2 := Aside0.mk hn; clear hn)
            go_roundw
            case rel => exact ⟨5, by omega, rfl, HN2.out⟩
            case measure => simp [Lib.intOf]
          ·
            obtain ⟨ad2, ead, had⟩ := Kd.at_int (Kd.C_below HR.out hP.bel) (5 : Int) (by omega) (by omega)
            obtain rfl := Option.some.inj ead
            replace had : wr.cell? (ad.add 5) = some (.int .i64 (rd l0_3 5)) := had
            have had2 := had
            simp [Addr.add] at had2
            have hc1 : ¬ cap = 17 := by omega
            have HT := Aside0.mk hP
            clear hP
            go_wp2_with (go_at_call 42; refine calls_of_args (args' := #[.slice (some ⟨g, 17, none⟩) 15 (cap - 17), .int .i64 (rd l0_3 5)]) (by first | rfl | simp [hc1]) ?_; refine (PSt.step 5 17 _ _ HT.out rfl (by omega) (by decide) (by decide)).mono ?_; rintro e w' ⟨rfl, hn⟩; have HN2 := Aside0.mk hn; clear hn)
            go_roundw
            case rel => exact ⟨6, by omega, rfl, HN2.out⟩
            case measure => simp [Lib.intOf]
          ·
            have hb3 := hP.field 3 (by rw [HBX.out]; rfl)
            rw [← HD.out] at hP
            have HQ := Aside0.mk hP
            clear hP hcap
            have hc66 : ¬ c0_3 = 6 := by
              have := HC.out
              omega
            have hcl : (l0_3.length : Int) ≤ (c0_3 : Int) := by
              have := HC.out
              omega
            go_wp2_with (first
              | ((with_reducible refine gate_dst (N := 109) rfl ?_); refine Kd.R_make (Kd.int .u8) w.heap.size 5 rfl (N := 109) rfl 40 _ _ rfl 64 rfl rfl Tryd.underlying40 (.int .u8 0) 1 infoU8 rfl (by decide) (by omega) (0 : Int) (w0 := w) (ok := fun k => k ≠ w.heap.size ∧ k ≠ g) (okp := fun k => k ≠ w.heap.size ∧ k ≠ g) (by rfl) (fun _ hk => hk) ?hf (by omega) (by decide) ?hB ?hs ?_; (case hf => exact ⟨fun e => by have := (Array.getElem?_eq_some_iff.1 HQ.out.box).1; omega, fun e => by have := Kd.R_lt HQ.out.row g rfl; omega⟩); (case hB => exact HQ.out.bel); (case hs => exact HQ.out.bel.size); intro v109 w109 ho109 hb109 hg109 hnew109; obtain ⟨g2, cap2, rfl, hge109, -, -⟩ := Kd.R_form ho109 (by decide); have hQ := QSt.start HQ.out hg109 ho109; clear ho109 hb109 hg109 hnew109 hge109; clear hb3; have hb3 := hQ.p.field 3 (by rw [HBX.out]; rfl); have HQ2 := Aside0.mk hQ; clear hQ))
            generalize Value.int .i64 ((6 : Nat) : Int) = z95
            go_loopw [114] (fun i wr => ∃ j : Nat, j ≤ l0_3.length - 6 ∧ i = .int .i64 j ∧ QSt w wr bx g cap NB g2 cap2 (putAll (List.replicate 64 0) 0 ((l0_3.drop 6).take j))) (fun i _ => 38 - (Lib.intOf i).toNat)
            case atStart => exact ⟨0, by omega, rfl, HQ2.out⟩
            case round =>
              obtain ⟨j, hj6, rfl, hQ⟩ := hrel
              have hcap2 := (Kd.R_reads' hQ.row2).2.1
              by_cases hlt : j < l0_3.length - 6
              · have hdl : (l0_3.drop 6).length = l0_3.length - 6 := List.length_drop
                have hcd := Kd.at_int (Kd.C_drop (m := 6) (c := c0_3) (Kd.C_below HR.out hQ.p.bel) (by omega) HC.out) (j : Int) (by omega) (by omega)
                rw [if_neg hc66] at hcd
                obtain ⟨ad2, ead2, had⟩ := hcd
                obtain rfl := Option.some.inj ead2
                rw [Int.toNat_natCast] at had
                rw [add_six] at had
                have hj31 : j < 32 := by omega
                have HT := Aside0.mk hQ
                clear hQ ead2
                go_wp2_with (go_at_call 42; refine (QSt.step j (2 * j) _ _ HT.out rfl (by omega) (by omega) (by omega)).mono ?_; rintro e w' ⟨rfl, hn⟩; have HN2 := Aside0.mk hn; clear hn)
                go_roundw
                case rel => exact ⟨j + 1, by omega, by go_num, HN2.out⟩
                case measure => simp [Lib.intOf]; omega
              · have ej : j = l0_3.length - 6 := by omega
                have hdl : (l0_3.drop 6).take j = l0_3.drop 6 := List.take_of_length_le (by rw [List.length_drop]; omega)
                rw [hdl] at hQ
                have HQ3 := Aside0.mk hQ
                clear hQ hdl hj6 ej
                have hge3 : ¬ ((j : Int) < ((l0_3.length - 6 : Nat) : Int)) := by omega
                go_wp2
                (try simp only [Exit.inBlock, Exit.then])
                refine bodyPost_ret (results_tmp3 rfl _ _ _) rfl ?_
                refine ⟨_, _, rfl, HQ3.out.rows.1, ?_, HQ3.out.p.bel⟩
                have hm := HM.out
                rw [if_pos (by omega)] at hm
                rw [← hm]
                exact HQ3.out.rows.2
  ·
    go_enter Tryd.func20, Tryd.ntmps20
    go_wp2_with (first
      | (go_at_call 32; refine (layout_blocks.calls a0_0 a0_2 (l0_3.length : Int) _ (Amb.below HAMB.out (by repeat (first | exact Below.refl _ _ | apply below_alloc | apply pw_below_drewN | apply below_drew1))) (by unfold layout_blocks.f; rw [HN.out])).mono ?_; rintro e w' ⟨rfl, nd, rfl⟩)
      | (go_at_call 39; refine (slices_ContainsFunc_int_int.calls k A0_3 c0_3 l0_3 _ _ ?s1 ?s2 HK.out).mono ?_; (case s1 => repeat (first | exact HR.out | (with_reducible refine Kd.C_alloc ?_ _) | (with_reducible refine Kd.C_drewN ?_ _) | (with_reducible refine Kd.C_drew ?_))); (case s2 => exact HC.out); rintro e w' ⟨rfl, nd2, rfl⟩)
      | (go_at_call 41; refine (layout_block.calls a0_4 false _ HBM.out).mono ?_; rintro e w' ⟨rfl, nd3, rfl⟩)
      | ((with_reducible refine gate_dst (N := 62) rfl ?_); refine Kd.R_make (Kd.int .u8) w.heap.size 5 rfl (N := 62) rfl 40 _ _ rfl 32 rfl rfl Tryd.underlying40 (.int .u8 0) 1 infoU8 rfl (by decide) (by omega) (0 : Int) (w0 := w) (ok := fun k => k ≠ w.heap.size) (okp := fun k => k ≠ w.heap.size) (by rfl) (fun _ hk => hk) ?hf (by omega) (by decide) ?hB ?hs ?_; (case hf => rw [HSZ.out]; omega); (case hB => exact HBW.out _ _); (case hs => rw [HSZ.out]; omega); intro v62 w62 ho62 hb62 hg62 hnew62; obtain ⟨g, cap, rfl, hge62, -, -⟩ := Kd.R_form ho62 (by decide); have hP := (PSt.start w _ hg62 hb62 ho62); clear ho62 hb62 hg62 hnew62 hge62; obtain ⟨hx0, hf0⟩ := hP.cell 0 (by decide); have hq0 := hP.field 0 rfl; have hq1 := hP.field 1 rfl; have hq2 := hP.field 2 rfl; have hq4 := hP.field 4 rfl; have hne := hP.ne; have hne2 := hP.ne.symm; have HP := Aside0.mk hP; clear hP))
    have HL := Aside0.mk (show L1 w #[.int .i64 a0_0, .int .i64 a0_1, .int .i64 a0_2, .slice A0_3 l0_3.length c0_3, .int .i64 a0_4] g cap ((List.replicate 32 0).set 0 (a0_0 % 256)) w62.heap.size a0_1 a0_2 a0_4 0 _ from ⟨(HP.out.put 0 (a0_0 % 256)).alloc (.cells #[.int .i64 a0_1, .int .i64 a0_2, .int .i64 a0_4] 3), (by have := blk_new (w62.setCell ⟨g, 0, none⟩ (.int .u8 (a0_0 % 256))) (.cells #[.int .i64 a0_1, .int .i64 a0_2, .int .i64 a0_4] 3); rwa [size_set] at this), (fun e => by have := Kd.R_lt HP.out.row g rfl; omega)⟩)
    obtain ⟨bx, hbx⟩ : ∃ b : Array Value, b = #[.int .i64 a0_0, .int .i64 a0_1, .int .i64 a0_2, .slice A0_3 l0_3.length c0_3, .int .i64 a0_4] := ⟨_, rfl⟩
    rw [← hbx] at HL
    have HBX := Aside0.mk hbx
    clear hbx
    obtain ⟨gl, hgl⟩ : ∃ x, w62.heap.size = x := ⟨_, rfl⟩
    rw [hgl] at HL
    (try rw [hgl])
    clear hx0 hf0 hq0 hq1 hq2 hq4 HP
    go_loopw [76] (fun i wr => ∃ j : Nat, j ≤ 3 ∧ i = .int .i64 j ∧ L1 w bx g cap ((List.replicate 32 0).set 0 (a0_0 % 256)) gl a0_1 a0_2 a0_4 j wr) (fun i _ => 3 - (Lib.intOf i).toNat)
    case atStart => exact ⟨0, by omega, rfl, HL.out⟩
    case round =>
      obtain ⟨j, hj3, rfl, hL⟩ := hrel
      have hcap := (Kd.R_reads' hL.1.row).2.1
      have hcases : j = 0 ∨ j = 1 ∨ j = 2 ∨ j = 3 := by omega
      rcases hcases with rfl | rfl | rfl | rfl
      ·
        have hl0 := hL.lit 0 a0_1 rfl
        have hc1 : ¬ cap = 1 := by omega
        have HL2 := Aside0.mk hL
        clear hL
        go_wp2_with (go_at_call 42; refine calls_of_args (args' := #[.slice (some ⟨g, 1, none⟩) 31 (cap - 1), .int .i64 a0_1]) (by first | rfl | simp [hc1]) ?_; refine (HL2.out.call 1 _ _ a0_1 (by decide) rfl rfl (by decide)).mono ?_; rintro e w' ⟨rfl, hn⟩; have HN2 := Aside0.mk hn; clear hn)
        exact ⟨⟨1, by omega, rfl, HN2.out⟩, by decide⟩
      ·
        have hl0 := hL.lit 1 a0_2 rfl
        have hc1 : ¬ cap = 3 := by omega
        have HL2 := Aside0.mk hL
        clear hL
        go_wp2_with (go_at_call 42; refine calls_of_args (args' := #[.slice (some ⟨g, 3, none⟩) 29 (cap - 3), .int .i64 a0_2]) (by first | rfl | simp [hc1]) ?_; refine (HL2.out.call 3 _ _ a0_2 (by decide) rfl rfl (by decide)).mono ?_; rintro e w' ⟨rfl, hn⟩; have HN2 := Aside0.mk hn; clear hn)
        exact ⟨⟨2, by omega, rfl, HN2.out⟩, by decide⟩
      ·
        have hl0 := hL.lit 2 a0_4 rfl
        have hc1 : ¬ cap = 5 := by omega
        have HL2 := Aside0.mk hL
        clear hL
        go_wp2_with (go_at_call 42; refine calls_of_args (args' := #[.slice (some ⟨g, 5, none⟩) 27 (cap - 5), .int .i64 a0_4]) (by first | rfl | simp [hc1]) ?_; refine (HL2.out.call 5 _ _ a0_4 (by decide) rfl rfl (by decide)).mono ?_; rintro e w' ⟨rfl, hn⟩; have HN2 := Aside0.mk hn; clear hn)
        exact ⟨⟨3, by omega, rfl, HN2.out⟩, by decide⟩
      ·
        have hb3 := hL.1.field 3 (by rw [HBX.out]; rfl)
        have hP := hL.1
        have e3 : putAll ((List.replicate 32 0).set 0 (a0_0 % 256)) 1 ([a0_1, a0_2, a0_4].take 3) = putAll ((List.replicate 32 0).set 0 (a0_0 % 256)) 1 [a0_1, a0_2, a0_4] := rfl
        rw [e3] at hP
        clear e3
        obtain ⟨b2, hb2⟩ : ∃ b, putAll ((List.replicate 32 0).set 0 (a0_0 % 256)) 1 [a0_1, a0_2, a0_4] = b := ⟨_, rfl⟩
        rw [hb2] at hP HD
        clear hb2
        have HP2 := Aside0.mk hP
        have hgt : ¬ 6 < (l0_3.length : Int) := of_decide_eq_false HF.out
        have hcl : l0_3.length ≤ c0_3 := HC.out
        clear hL hP hcap
        go_wp2
        generalize Value.int .i64 ((3 : Nat) : Int) = z76
        go_loopw [95] (fun i wr => ∃ j : Nat, j ≤ l0_3.length ∧ i = .int .i64 j ∧ PSt w wr bx g cap (putAll b2 7 (l0_3.take j))) (fun i _ => 6 - (Lib.intOf i).toNat)
        case atStart => exact ⟨0, by omega, rfl, HP2.out⟩
        case round =>
          obtain ⟨j, hj6, rfl, hP⟩ := hrel
          have hcap := (Kd.R_reads' hP.row).2.1
          by_cases hlt : j < l0_3.length
          · have hcases : j = 0 ∨ j = 1 ∨ j = 2 ∨ j = 3 ∨ j = 4 ∨ j = 5 := by omega
            rcases hcases with rfl | rfl | rfl | rfl | rfl | rfl
            ·
              obtain ⟨ad, ead, had⟩ := Kd.at_int (Kd.C_below HR.out hP.bel) (0 : Int) (by omega) (by omega)
              rw [add_none] at had
              have hc1 : ¬ cap = 7 := by omega
              have HT := Aside0.mk hP
              clear hP
              subst ead
              go_wp2_with (go_at_call 42; refine calls_of_args (args' := #[.slice (some ⟨g, 7, none⟩) 25 (cap - 7), .int .i64 (rd l0_3 0)]) (by first | rfl | simp [hc1]) ?_; refine (PSt.step 0 7 _ _ HT.out rfl (by omega) (by decide) (by decide)).mono ?_; rintro e w' ⟨rfl, hn⟩; have HN2 := Aside0.mk hn; clear hn)
              go_roundw
              case rel => exact ⟨1, by omega, rfl, HN2.out⟩
              case measure => simp [Lib.intOf]
            ·
              obtain ⟨ad, ead, had⟩ := Kd.at_int (Kd.C_below HR.out hP.bel) (1 : Int) (by omega) (by omega)
              replace had : wr.cell? (ad.add 1) = some (.int .i64 (rd l0_3 1)) := had
              have had2 := had
              simp [Addr.add] at had2
              have hc1 : ¬ cap = 9 := by omega
              have HT := Aside0.mk hP
              clear hP
              subst ead
              go_wp2_with (go_at_call 42; refine calls_of_args (args' := #[.slice (some ⟨g, 9, none⟩) 23 (cap - 9), .int .i64 (rd l0_3 1)]) (by first | rfl | simp [hc1]) ?_; refine (PSt.step 1 9 _ _ HT.out rfl (by omega) (by decide) (by decide)).mono ?_; rintro e w' ⟨rfl, hn⟩; have HN2 := Aside0.mk hn; clear hn)
              go_roundw
              case rel => exact ⟨2, by omega, rfl, HN2.out⟩
              case measure => simp [Lib.intOf]
            ·
              obtain ⟨ad, ead, had⟩ := Kd.at_int (Kd.C_below HR.out hP.bel) (2 : Int) (by omega) (by omega)
              replace had : wr.cell? (ad.add 2) = some (.int .i64 (rd l0_3 2)) := had
              have had2 := had
              simp [Addr.add] at had2
              have hc1 : ¬ cap = 11 := by omega
              have HT := Aside0.mk hP
              clear hP
              subst ead
              go_wp2_with (go_at_call 42; refine calls_of_args (args' := #[.slice (some ⟨g, 11, none⟩) 21 (cap - 11), .int .i64 (rd l0_3 2)]) (by first | rfl | simp [hc1]) ?_; refine (PSt.step 2 11 _ _ HT.out rfl (by omega) (by decide) (by decide)).mono ?_; rintro e w' ⟨rfl, hn⟩; have HN2 := Aside0.mk hn; clear hn)
              go_roundw
              case rel => exact ⟨3, by omega, rfl, HN2.out⟩
              case measure => simp [Lib.intOf]
            ·
              obtain ⟨ad, ead, had⟩ := Kd.at_int (Kd.C_below HR.out hP.bel) (3 : Int) (by omega) (by omega)
              replace had : wr.cell? (ad.add 3) = some (.int .i64 (rd l0_3 3)) := had
              have had2 := had
              simp [Addr.add] at had2
              have hc1 : ¬ cap = 13 := by omega
              have HT := Aside0.mk hP
              clear hP
              subst ead
              go_wp2_with (go_at_call 42; refine calls_of_args (args' := #[.slice (some ⟨g, 13, none⟩) 19 (cap - 13), .int .i64 (rd l0_3 3)]) (by first | rfl | simp [hc1]) ?_; refine (PSt.step 3 13 _ _ HT.out rfl (by omega) (by decide) (by decide)).mono ?_; rintro e w' ⟨rfl, hn⟩; have HN2 := Aside0.mk hn; clear hn)
              go_roundw
              case rel => exact ⟨4, by omega, rfl, HN2.out⟩
              case measure => simp [Lib.intOf]
            ·
              obtain ⟨ad, ead, had⟩ := Kd.at_int (Kd.C_below HR.out hP.bel) (4 : Int) (by omega) (by omega)
              replace had : wr.cell? (ad.add 4) = some (.int .i64 (rd l0_3 4)) := had
              have had2 := had
              simp [Addr.add] at had2
              have hc1 : ¬ cap = 15 := by omega
              have HT := Aside0.mk hP
              clear hP
              subst ead
              go_wp2_with (go_at_call 42; refine calls_of_args (args' := #[.slice (some ⟨g, 15, none⟩) 17 (cap - 15), .int .i64 (rd l0_3 4)]) (by first | rfl | simp [hc1]) ?_; refine (PSt.step 4 15 _ _ HT.out rfl (by omega) (by decide) (by decide)).mono ?_; rintro e w' ⟨rfl, hn⟩; have HN2 := Aside0.mk hn; clear hn)
              go_roundw
              case rel => exact ⟨5, by omega, rfl, HN2.out⟩
              case measure => simp [Lib.intOf]
            ·
              obtain ⟨ad, ead, had⟩ := Kd.at_int (Kd.C_below HR.out hP.bel) (5 : Int) (by omega) (by omega)
              replace had : wr.cell? (ad.add 5) = some (.int .i64 (rd l0_3 5)) := had
              have had2 := had
              simp [Addr.add] at had2
              have hc1 : ¬ cap = 17 := by omega
              have HT := Aside0.mk hP
              clear hP
              subst ead
              go_wp2_with (go_at_call 42; refine calls_of_args (args' := #[.slice (some ⟨g, 17, none⟩) 15 (cap - 17), .int .i64 (rd l0_3 5)]) (by first | rfl | simp [hc1]) ?_; refine (PSt.step 5 17 _ _ HT.out rfl (by omega) (by decide) (by decide)).mono ?_; rintro e w' ⟨rfl, hn⟩; have HN2 := Aside0.mk hn; clear hn)
              go_roundw
              case rel => exact ⟨6, by omega, rfl, HN2.out⟩
              case measure => simp [Lib.intOf]
          · have ej : j = l0_3.length := by omega
            have e6 : l0_3.take j = l0_3.take 6 := by rw [List.take_of_length_le (by omega), List.take_of_length_le (by omega)]
            rw [e6, ← HD.out] at hP
            have HQ3 := Aside0.mk hP
            clear hP e6
            go_wp2
            (try simp only [Exit.inBlock, Exit.then])
            refine bodyPost_ret (results_tmp3 rfl _ _ _) rfl ?_
            refine ⟨_, _, rfl, ?_, ?_, HQ3.out.bel⟩
            · exact Kd.R_mono HQ3.out.row (fun _ _ => by simp [Value.ownBlock])
            · have hm := HM.out
              rw [if_neg (by omega)] at hm
              rw [← hm]
              exact Kd.R_nil _ _ _ _ _
theorem layout_PutNode.calls (a0_0 : Int) (a0_1 : Int) (a0_2 : Int) (A0_3 : Option Addr) (c0_3 : Nat) (l0_3 : List Int) (a0_4 : Int) (r1 : List Int) (r2 : List Int) (r3 : Int) (w : World) (hr0_3 : Kd.C (Kd.int .i64) w A0_3 l0_3.length l0_3) (hc0_3 : l0_3.length ≤ c0_3) (hamb : Amb w) (h : layout_PutNode.f a0_0 a0_1 a0_2 l0_3 a0_4 = some (r1, r2, r3)) :
    Calls Tryd.prog 20 #[.agg #[.int .i64 a0_0, .int .i64 a0_1, .int .i64 a0_2, .slice A0_3 l0_3.length c0_3, .int .i64 a0_4]] w fun e w' => ∃ v0_ v1_ : Value, e = .returned (.tuple #[v0_, v1_, .int .i64 r3]) ∧ Kd.R (Kd.int .u8) 5 w' w.heap.size (fun k_ => some k_ ≠ (v1_ : Value).ownBlock) v0_ r1 ∧ Kd.R (Kd.int .u8) 5 w' w.heap.size (fun k_ => some k_ ≠ (v0_ : Value).ownBlock) v1_ r2 ∧ Below w.heap.size w w' := by
  unfold layout_PutNode.f at h
  split at h
  · rename_i hz
    have h' := Option.some.inj h
    cases hok : nodeOk a0_0 a0_1 a0_2 l0_3 a0_4 with
    | true =>
      rw [hok] at h'
      simp only [if_true, Prod.mk.injEq] at h'
      obtain ⟨rfl, rfl, rfl⟩ := h'
      exact put_ok a0_0 a0_1 a0_2 A0_3 c0_3 l0_3 a0_4 w hr0_3 hc0_3 hamb hok
    | false =>
      rw [hok] at h'
      simp only [Bool.false_eq_true, if_false, Prod.mk.injEq] at h'
      obtain ⟨rfl, rfl, rfl⟩ := h'
      refine (put_bad a0_0 a0_1 a0_2 A0_3 c0_3 l0_3 a0_4 w hr0_3 hc0_3 hamb hz hok).mono ?_
      rintro e w' ⟨rfl, hb⟩
      exact ⟨_, _, rfl, Kd.R_nil _ _ _ _ _, Kd.R_nil _ _ _ _ _, hb⟩
  · cases h

end Go.Proofs.YtgppfalpncbmbaaDoor.PE
