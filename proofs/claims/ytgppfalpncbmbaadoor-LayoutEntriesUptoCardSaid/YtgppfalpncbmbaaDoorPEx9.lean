-- printed by wip/printx (a program of this session's, over the kit's print)
import Derived.Test.YtgppfalpncbmbaaDoorPEx0
import Derived.Test.YtgppfalpncbmbaaDoorPEx7
import Derived.Test.YtgppfalpncbmbaaDoorPEx8
namespace Go.Proofs.YtgppfalpncbmbaaDoor.PE
open Go.RowKit Go.Proofs.YtgppfalpncbmbaaDoorW.PrintWords Go.Proofs.YtgppfalpncbmbaaDoorW.PrintLast Go.Proofs.YtgppfalpncbmbaaDoorW.PrintMore
attribute [local go_sem] max2_int min2_int max_two min_two max_three min_three max_four min_four Go.Proofs.YtgppfalpncbmbaaDoor.PxMore.isSome_setCell   -- for this text's walks alone
set_option linter.unusedVariables false
set_option linter.unusedSimpArgs false

/-! ### layout_TakeEntries: function 24 -/

attribute [local go_sem] Oper.semAt_some
/-- The k-th text and number of a row of bytes. -/
def entAt (l : List Int) (k : Nat) : S47 := ⟨l.getD (32 * k) 0, strOfNums ((l.drop (32 * k + 2)).take (l.getD (32 * k + 1) 0).toNat)⟩
def takeOk (l : List Int) (k : Nat) : Bool := decide (32 * (k + 1) ≤ l.length) && decide (l.getD (32 * k + 1) 0 ≤ 28)
def chunks (l : List Int) : Nat := (l.length + 31) / 32
def layout_TakeEntries.f (l0 : List Int) : Option (List S47 × Int) :=
  if l0.length ≤ 1099511627776 ∧ l0.all (fun x => decide (0 ≤ x) && decide (x < 256)) = true then
    (if (List.range (chunks l0)).all (takeOk l0) then
      (layout_PutEntries.f ((List.range (chunks l0)).map (entAt l0))).bind fun p =>
        if p.2 = 0 ∧ (strOfNums p.1).toList = (strOfNums l0).toList then some ((List.range (chunks l0)).map (entAt l0), 0) else some ([], 4)
    else some ([], 4))
  else none
/-! ### slices.Chunk: its closure, called as an iterator -/
def chunkV (A0 : Option Addr) (len k : Nat) : Value := .slice (A0.map (·.add (32 * k))) (min 32 (len - 32 * k)) (min 32 (len - 32 * k))
def KpC (Bs Bn : Nat) (A B : World) : Prop := (∀ v, Boxed A Bs 40 v → Boxed B Bs 40 v) ∧ (∀ v, Boxed A Bn 3 v → Boxed B Bn 3 v)
theorem KpC.trans {Bs Bn : Nat} {A B C : World} (h : KpC Bs Bn A B) (k : KpC Bs Bn B C) : KpC Bs Bn A C := ⟨fun o e => k.1 o (h.1 o e), fun o e => k.2 o (h.2 o e)⟩
theorem KpC.put {Bs Bn : Nat} {w : World} (h1 : Bs < w.heap.size) (h2 : Bn < w.heap.size) (W : World) (l : Nat) (o o' : Obj) (hl : w.heap.size ≤ l) (h : W.heap[l]? = some o) (_ : o.isCells = false) (_ : o.isWalk = false) : KpC Bs Bn W (W.putObj l o') :=
  ⟨fun q e => (World.putObj_heap_other (by omega)).trans e, fun q e => (World.putObj_heap_other (by omega)).trans e⟩
theorem KpC.below {Bs Bn : Nat} {A B : World} (h : Below A.heap.size A B) : KpC Bs Bn A B := ⟨fun v e => blk_below e h, fun v e => blk_below e h⟩
theorem sz8 : ∃ i, Tryd.prog.info? 5 = some i ∧ i.size = 1 := by
  obtain ⟨i, hi, _, hs, _⟩ := info_parts info5
  exact ⟨i, hi, hs⟩
theorem cut_lhm (A : Option Addr) (len c k m : Nat) (q h : Int) (hq : q = ((32 * k : Nat) : Int)) (hh : h = ((32 * k + m : Nat) : Int)) (hm : 0 < m) (hk : 32 * k + m ≤ len) (hc : len ≤ c) (W : World) :
    (Instr.slice 40 (.slice A len c) (some (.int .i64 q)) (some (.int .i64 h)) (some (.int .i64 h))).run Tryd.prog W = .ok (.slice (A.map (·.add (32 * k))) m m) W := by
  obtain ⟨i, hi, hs⟩ := sz8
  have ht := Tryd.underlying40
  have hel : Tryd.prog.elem 40 = 5 := by simp [Program.elem, ht]
  have hu : Tryd.prog.underlying 40 = some (.slice (Tryd.prog.elem 40)) := by rw [hel]; exact ht
  rw [run_slice_lhm W 40 A len c hu .i64 .i64 .i64 _ _ _ (by omega) (by omega) (by omega) (by omega), hel]
  have e1 : 32 * k + m - 32 * k = m := by omega
  have e3 : q.toNat = 32 * k := by omega
  have e4 : h.toNat = 32 * k + m := by omega
  rw [e3, e4]
  simp [sizeOf, typeInfo, hi, hs, sliced, Result.andThen, e1, show ¬ m = 0 by omega]
set_option maxRecDepth 100000 in
set_option maxHeartbeats 4000000 in
theorem chunk1 (n : Nat) (hn : 1 ≤ n) (l Bs Bn : Nat) (A0 : Option Addr) (len c : Nat) (hlen : len ≤ 1099511627776) (hcap : len ≤ c) (J Jx : List Nat → World → Prop)
    (W : World) (hJ : AbidesFrom W.heap.size J)
    (hY : ∀ pre x W, J pre W → pre.length < (len + 31) / 32 → YieldAt Fence.wide (n - 1) Tryd.prog l #[chunkV A0 len x] W fun e W' =>
      (e = .returned (.bool true) ∧ J (pre ++ [x]) W' ∧ KpC Bs Bn W W') ∨ (e = .returned (.bool false) ∧ Jx (pre ++ [x]) W'))
    (hBs : Boxed W Bs 40 (.slice A0 len c)) (hBn : Boxed W Bn 3 (.int .i64 32)) (h0 : J [] W) :
    CallsIn Fence.wide n Tryd.prog 63 #[.func (.yield l) #[] #[], .pointer (some ⟨Bs, 0, none⟩), .pointer (some ⟨Bn, 0, none⟩)] W fun e W' => (∃ v, e = .returned v) ∧
      ((∃ ys, ys = List.range ((len + 31) / 32) ∧ J ys W') ∨ (∃ pre, (∃ k, k ≤ (len + 31) / 32 ∧ pre = List.range k) ∧ Jx pre W')) := by
  refine callsIn_of_wp Tryd.func63 rfl trivial ?_ rfl
  simp only [Tryd.ntmps63, List.size_toArray, List.length_cons, List.length_nil, Nat.reduceAdd, Nat.reduceSub, Array.replicate_succ, Array.replicate_zero, List.push_toArray, List.append_toArray, List.nil_append, List.cons_append]
  gi_wp2
  gi_loopw [4] (fun i wr => ∃ (k : Nat) (q : Int), k ≤ (len + 31) / 32 ∧ i = .int .i64 q ∧ q = ((32 * k : Nat) : Int) ∧ J (List.range k) wr ∧ Boxed wr Bs 40 (.slice A0 len c) ∧ Boxed wr Bn 3 (.int .i64 32))
    (fun i _ => len + 32 - (Lib.intOf i).toNat)
  case atStart => exact ⟨0, 0, Nat.zero_le _, rfl, rfl, h0, hBs, hBn⟩
  case round =>
    obtain ⟨k, q, hk, rfl, hq, hJs, b1, b2⟩ := hrel
    have c1 := b1.cell
    have c2 := b2.cell
    by_cases hlt : 32 * k < len
    · have hlt' : q < (len : Int) := by omega
      obtain ⟨m, hm⟩ : ∃ m, min 32 (len - 32 * k) = m := ⟨_, rfl⟩
      gi_wp2
      refine wpIn_wide.2 ?_
      have q0 : (0 ≤ q) = True := eq_true (by omega)
      have q1 : (q ≤ (len : Int)) = True := eq_true (by omega)
      have HQ := Aside0.mk hq
      clear hq
      refine wp_region_grow (fun a b => b = a) (fun _ => none) (by kernel_rfl) (by kernel_rfl) (fun _ => rfl) (fun _ _ _ h k => k.trans h) (fun i V hV => by cases hV) ?_
      simp only [List.zipIdx_cons, List.zipIdx_nil, Nat.zero_add, Nat.reduceAdd]
      iterate 6 (refine grow_read ?_ rfl (fun w' hr _ => ?_) ?_; rotate_left 1; (subst hr; have g1 : wr.drew.cell? _ = _ := c1; have g2 : wr.drew.cell? _ = _ := c2; unfold Runs; go_simp; rfl); try simp only [Act.put, List.setIfInBounds_toArray, List.set_cons_zero, List.set_cons_succ])
      refine grow_read ?_ rfl (fun w' hr _ => ?_) ?_; rotate_left 1; (subst hr; unfold Runs; go_simp; rfl)
      refine grow_end (fun w2 hr hf => ?_)
      clear hf
      subst hr
      rw [show (if ((len - q.toNat : Nat) : Int) < 32 then ((len - q.toNat : Nat) : Int) else 32) = (m : Int) by have := HQ.out; split <;> omega]
      generalize (if c = q.toNat then A0 else Option.map (fun x => x.add q.toNat) A0) = Ax
      have hm0 : 0 < m := by omega
      have hw : IntKind.i64.wrap (q + (m : Int)) = ((32 * k + m : Nat) : Int) := by rw [i64_w]; have := HQ.out; unfold wrap64; omega
      have hcut2 := fun W => cut_lhm A0 len c k m q ((32 * k + m : Nat) : Int) HQ.out rfl hm0 (by omega) hcap W
      obtain ⟨h, hh⟩ : ∃ h : Int, ((32 * k + m : Nat) : Int) = h := ⟨_, rfl⟩
      rw [hh] at hw hcut2
      have hJd : J (List.range k) wr.drew := hJ _ wr wr.drew none hJs ⟨rfl, rfl, rfl, Nat.le_refl _, fun _ _ _ => rfl⟩ (fun r e => by cases e)
      obtain ⟨fn, tmps, assign, body, hy, hR⟩ := hY _ k wr.drew hJd (by rw [List.length_range]; omega)
      unfold chunkV at hy
      rw [hm] at hy
      have g1 : wr.drew.cell? _ = _ := c1
      have g2 : wr.drew.cell? _ = _ := c2
      have b1' : Boxed wr.drew _ _ _ := b1
      have b2' : Boxed wr.drew _ _ _ := b2
      generalize wr.drew = wd at g1 g2 b1' b2' hJd hy hR ⊢
      clear hJs b1 b2 c1 c2 q0 q1 hm
      gi_wp2
      refine hR.mono ?_
      rintro e W3 (⟨rfl, hJ3, hk3⟩ | ⟨rfl, hJx3⟩)
      · have b13 : Boxed W3 _ _ _ := hk3.1 _ b1'
        have b23 : Boxed W3 _ _ _ := hk3.2 _ b2'
        have g23 := b23.cell
        gi_wp2
        go_roundw
        case rel => exact ⟨k + 1, _, by omega, rfl, by have := HQ.out; unfold wrap64; omega, by rw [List.range_succ]; exact hJ3, b13, b23⟩
        case measure => simp [Lib.intOf]; have := HQ.out; unfold wrap64; omega
      · gi_wp2
        refine bodyPost_ret (results_none rfl _ _ _) rfl ?_
        exact ⟨⟨_, rfl⟩, .inr ⟨_, ⟨k + 1, by omega, by rw [List.range_succ]⟩, hJx3⟩⟩
    · have hlt' : ¬ q < (len : Int) := by omega
      obtain rfl : k = (len + 31) / 32 := by omega
      gi_wp2
      go_end0
      exact ⟨⟨_, rfl⟩, .inl hJs⟩
set_option maxHeartbeats 1000000 in
/-- slices.Chunk boxes its two arguments; the function value holds the boxes. -/
theorem chunk_calls (n : Nat) (A0 : Option Addr) (len c : Nat) (w : World) :
    CallsIn Fence.wide n Tryd.prog 44 #[.slice A0 len c, .int .i64 32] w fun e w' => e = .returned (.func (.func 63) #[] #[.pointer (some ⟨w.heap.size, 0, none⟩), .pointer (some ⟨w.heap.size + 1, 0, none⟩)]) ∧
      w' = (w.alloc (.cells #[.slice A0 len c] 40)).alloc (.cells #[.int .i64 32] 3) := by
  refine callsIn_of_wp Tryd.func44 rfl trivial ?_ rfl
  simp only [Tryd.ntmps44, List.size_toArray, List.length_cons, List.length_nil, Nat.reduceAdd, Nat.reduceSub, Array.replicate_succ, Array.replicate_zero, List.push_toArray, List.append_toArray, List.nil_append, List.cons_append]
  gi_wp2
  go_ret
  exact ⟨rfl, rfl⟩
theorem chunk_stops (n : Nat) (hn : 1 ≤ n) (Bs Bn : Nat) (A0 : Option Addr) (len c : Nat) (hlen : len ≤ 1099511627776) (hcap : len ≤ c) (w : World) (h1 : Bs < w.heap.size) (h2 : Bn < w.heap.size)
    (hBs : Boxed w Bs 40 (.slice A0 len c)) (hBn : Boxed w Bn 3 (.int .i64 32)) :
    SeqStopsK Fence.wide n Tryd.prog 63 #[.pointer (some ⟨Bs, 0, none⟩), .pointer (some ⟨Bn, 0, none⟩)] (fun x : Nat => #[chunkV A0 len x]) (KpC Bs Bn) (fun ys => ys = List.range ((len + 31) / 32)) (fun pre => ∃ k, k ≤ (len + 31) / 32 ∧ pre = List.range k) ((len + 31) / 32) w :=
  fun l J Jx W hW hJ _ hY h0 => chunk1 n hn l Bs Bn A0 len c hlen hcap J Jx W hJ hY (blk_below hBs hW) (blk_below hBn hW) h0
attribute [local go_sem] Oper.semAt_some
/-! ### layout.TakeEntries -/
structure TSt (w W : World) (l0 : List Int) (v : Value) (pre : List Nat) : Prop where
  b0 : Boxed W w.heap.size 38 (.slice none 0 0)
  b1 : Boxed W (w.heap.size + 1) 25 (.int .i64 0)
  b2 : Boxed W (w.heap.size + 2) 38 v
  row : Kd.R k47 47 W w.heap.size (fun _ => True) v (pre.map (entAt l0))
  bel : Below w.heap.size w W
  ok : ∀ k ∈ pre, takeOk l0 k = true
structure TEnd (w W : World) (l0 : List Int) (pre : List Nat) : Prop where
  b0 : Boxed W w.heap.size 38 (.slice none 0 0)
  b1 : Boxed W (w.heap.size + 1) 25 (.int .i64 4)
  bel : Below w.heap.size w W
  bad : ∃ k ∈ pre, takeOk l0 k = false
theorem TSt.own {w : World} {l0 : List Int} : OwnFrom (w.heap.size + 5) (fun (pre : List Nat) W => ∃ v, TSt w W l0 v pre) := by
  rintro pre A A' row ⟨v, h⟩ hg hr
  have hne : ∀ k, k < w.heap.size + 5 → some k ≠ row := fun k hk e => by have := (hr k e.symm).1; omega
  refine ⟨v, h.b0.kept hg (hne _ (by omega)), h.b1.kept hg (hne _ (by omega)), h.b2.kept hg (hne _ (by omega)), ?_, h.bel.grown hg h.bel.size (fun k e => by have := (hr k e).1; omega), h.ok⟩
  refine Kd.R_mono (Kd.R_grown (Kd.R_bound h.row) hg (fun k hk e => ?_)) (fun _ _ => trivial)
  obtain ⟨_, _, _, q, _, cells, hc⟩ := hk
  obtain ⟨_, o, ho, hoc⟩ := hr k e.symm
  rw [hc] at ho
  cases ho
  cases hoc
theorem TEnd.own {w : World} {l0 : List Int} (c : Code) : OwnFrom (w.heap.size + 5) (fun (pre : List Nat) W => c = .ret ∧ TEnd w W l0 pre) := by
  rintro pre A A' row ⟨hc, h⟩ hg hr
  have hne : ∀ k, k < w.heap.size + 5 → some k ≠ row := fun k hk e => by have := (hr k e.symm).1; omega
  exact ⟨hc, h.b0.kept hg (hne _ (by omega)), h.b1.kept hg (hne _ (by omega)), h.bel.grown hg h.bel.size (fun k e => by have := (hr k e).1; omega), h.bad⟩
theorem byte_get {l : List Int} (h : l.all (fun x => decide (0 ≤ x) && decide (x < 256)) = true) (j : Nat) : 0 ≤ l.getD j 0 ∧ l.getD j 0 < 256 := by
  by_cases hj : j < l.length
  · have := List.all_eq_true.1 h (l.getD j 0) (by rw [List.getD_eq_getElem?_getD, List.getElem?_eq_getElem hj, Option.getD_some]; exact List.getElem_mem _)
    simpa using this
  · rw [List.getD_eq_getElem?_getD, List.getElem?_eq_none (by omega)]
    decide
theorem k47_ne (q : Nat) (hq : q ∈ 47 :: k47.E) : q ≠ 38 := by simp [k47, Kd.iso, Kd.pair, Kd.int, Kd.string, Kd.scalar] at hq; omega
theorem k47_ne' (q : Nat) (hq : q ∈ 47 :: k47.E) : q ≠ 25 := by simp [k47, Kd.iso, Kd.pair, Kd.int, Kd.string, Kd.scalar] at hq; omega
theorem row_put {W : World} {base D : Nat} {v : Value} {es : List S47} {o0 : Obj} (h : Kd.R k47 47 W base (fun _ => True) v es) (hK : W.heap[D]? = some o0) (hc : o0.isCells = false) (o : Obj) : Kd.R k47 47 (W.putObj D o) base (fun _ => True) v es := by
  refine Kd.R_mono (Kd.R_grown (Kd.R_bound h) (grownBy_putObj' W D o) (fun k hk e => ?_)) (fun _ _ => trivial)
  obtain ⟨_, _, _, q, _, cells, hcc⟩ := hk
  cases e
  rw [hK] at hcc
  cases hcc
  cases hc
set_option maxRecDepth 100000 in
set_option maxHeartbeats 4000000 in
theorem layout_TakeEntries.calls (A0 : Option Addr) (c0 : Nat) (l0 : List Int) (r1 : List S47) (r2 : Int) (w : World) (hr0 : Kd.C (Kd.int .u8) w A0 l0.length l0) (hc0 : l0.length ≤ c0) (h : layout_TakeEntries.f l0 = some (r1, r2)) :
    Calls Tryd.prog 24 #[.slice A0 l0.length c0] w fun e w' => ∃ v0_ : Value, e = .returned (.tuple #[v0_, .int .i64 r2]) ∧ Kd.R k47 47 w' w.heap.size (fun _ => True) v0_ r1 ∧ Below w.heap.size w w' := by
  unfold layout_TakeEntries.f at h
  by_cases hh : l0.length ≤ 1099511627776 ∧ l0.all (fun x => decide (0 ≤ x) && decide (x < 256)) = true
  rotate_left
  · rw [if_neg hh] at h
    cases h
  rw [if_pos hh] at h
  obtain ⟨hlen, hby⟩ := hh
  have HR := Aside0.mk hr0
  have HC := Aside0.mk hc0
  have H := Aside0.mk h
  have HBY := Aside0.mk hby
  have HLEN := Aside0.mk hlen
  obtain ⟨len, hln⟩ : ∃ n, l0.length = n := ⟨_, rfl⟩
  rw [hln] at hlen hc0 ⊢
  have HLN := Aside0.mk hln
  clear hr0 h hby hln
  refine (callsIn_wide (n := 3)).1 ?_
  refine callsIn_of_wp_marks Tryd.func24 rfl trivial ?_ rfl
  simp only [Tryd.ntmps24, List.size_toArray, List.length_cons, List.length_nil, Nat.reduceAdd, Nat.reduceSub, Array.replicate_succ, Array.replicate_zero, List.push_toArray, List.append_toArray, List.nil_append, List.cons_append]
  gi_wp2_with (refine ⟨trivial, ?_⟩; gi_at_call 44; refine (chunk_calls _ _ _ _ _).mono ?_; rintro e w' ⟨rfl, rfl⟩)
  obtain ⟨W3, hW3⟩ : ∃ W3, (((w.alloc (.cells #[.slice none 0 0] 38)).alloc (.cells #[.int .i64 0] 25)).alloc (.cells #[.slice none 0 0] 38)) = W3 := ⟨_, rfl⟩
  have hz3 : W3.heap.size = w.heap.size + 3 := by rw [← hW3]; simp
  have x0 : Boxed W3 w.heap.size 38 (.slice none 0 0) := by rw [← hW3]; exact ((Boxed.new w _ _).alloc _).alloc _
  have x1 : Boxed W3 (w.heap.size + 1) 25 (.int .i64 0) := by
    rw [← hW3]
    have := (Boxed.new (w.alloc (.cells #[.slice none 0 0] 38)) 25 (.int .i64 0)).alloc (.cells #[.slice none 0 0] 38)
    rwa [World.size_alloc] at this
  have x2 : Boxed W3 (w.heap.size + 2) 38 (.slice none 0 0) := by
    rw [← hW3]
    have := Boxed.new ((w.alloc (.cells #[.slice none 0 0] 38)).alloc (.cells #[.int .i64 0] 25)) 38 (.slice none 0 0)
    rwa [World.size_alloc, World.size_alloc] at this
  have xb : Below w.heap.size w W3 := by rw [← hW3]; exact below_alloc (below_alloc (below_alloc (Below.refl _ _) _) _) _
  simp only [World.size_alloc, Nat.add_assoc, Nat.reduceAdd]
  rw [hW3]
  clear hW3
  have x3 : Boxed ((W3.alloc (.cells #[.slice A0 len c0] 40)).alloc (.cells #[.int .i64 32] 3)) (w.heap.size + 3) 40 (.slice A0 len c0) := by
    have := (Boxed.new W3 40 (.slice A0 len c0)).alloc (.cells #[.int .i64 32] 3)
    rwa [hz3] at this
  have x4 : Boxed ((W3.alloc (.cells #[.slice A0 len c0] 40)).alloc (.cells #[.int .i64 32] 3)) (w.heap.size + 4) 3 (.int .i64 32) := by
    have := Boxed.new (W3.alloc (.cells #[.slice A0 len c0] 40)) 3 (.int .i64 32)
    rwa [World.size_alloc, hz3] at this
  have x5 : TSt w ((W3.alloc (.cells #[.slice A0 len c0] 40)).alloc (.cells #[.int .i64 32] 3)) l0 (.slice none 0 0) [] :=
    ⟨(x0.alloc _).alloc _, (x1.alloc _).alloc _, (x2.alloc _).alloc _, Kd.R_nil _ _ _ _ _, below_alloc (below_alloc xb _) _, fun k hk => by cases hk⟩
  have hz5 : ((W3.alloc (.cells #[.slice A0 len c0] 40)).alloc (.cells #[.int .i64 32] 3)).heap.size = w.heap.size + 5 := by simp [hz3]
  generalize (W3.alloc (.cells #[.slice A0 len c0] 40)).alloc (.cells #[.int .i64 32] 3) = W5 at x3 x4 x5 hz5 ⊢
  clear x0 x1 x2 xb hz3
  have hOwn : OwnFrom W5.heap.size (fun (pre : List Nat) W => ∃ v, TSt w W l0 v pre) := by rw [hz5]; exact TSt.own
  have hOwnX : ∀ c, OwnFrom W5.heap.size (fun (pre : List Nat) W => c = Code.ret ∧ TEnd w W l0 pre) := by rw [hz5]; exact TEnd.own
  refine wpIn_rangeFunc_ownG (α := Nat) rfl (by omega) (gf := 63) (lb := #[.pointer (some ⟨w.heap.size + 3, 0, none⟩), .pointer (some ⟨w.heap.size + 4, 0, none⟩)]) ?hg trivial (enters_of Tryd.func63 (by kernel_rfl) rfl)
    (chunk_stops 2 (by omega) (w.heap.size + 3) (w.heap.size + 4) A0 len c0 hlen hc0 W5 (by omega) (by omega) x3 x4) KpC.trans (KpC.put (by omega) (by omega)) (Below.refl _ _) (fun _ => rfl)
    (fun pre W => ∃ v, TSt w W l0 v pre) (fun c pre W => c = .ret ∧ TEnd w W l0 pre) hOwn hOwnX ⟨_, x5⟩
    (fun x => { tmps := #[.slice A0 len c0, undef, .pointer (some ⟨w.heap.size, 0, none⟩), .pointer (some ⟨w.heap.size + 1, 0, none⟩), .pointer (some ⟨w.heap.size + 2, 0, none⟩), chunkV A0 len x, undef, undef, .slice A0 len c0, .func (.func 63) #[] #[.pointer (some ⟨w.heap.size + 3, 0, none⟩), .pointer (some ⟨w.heap.size + 4, 0, none⟩)], chunkV A0 len x, undef, undef, undef, undef, undef, undef, undef, undef, undef, undef, undef, undef, undef, undef, undef, undef, undef, undef, undef, undef, undef, undef, undef, undef, undef, undef, undef, undef, undef, undef, undef, undef, undef, undef, undef, undef, undef, undef, undef, undef], defers := [] }) ?assign ?body ?done ?stop
  case hg => first | rfl | (simp [hz3]; done) | trace_state
  case assign =>
    intro l x W K hK
    gi_wp2
    exact hK
  case body =>
    rintro l pre x W ⟨v, hS⟩ hlt
    rw [hz5]
    clear hz5 hOwn hOwnX x3 x4 x5
    have k2 := hS.b2.cell
    have S := Aside0.mk hS
    have k0 := hS.b0.cell
    have k1 := hS.b1.cell
    have f0 := hS.b0.frozen
    have f1 := hS.b1.frozen
    have EE := Aside0.mk (fun hbad : takeOk l0 x = false => (⟨(hS.b0.set _).other (by omega) _, (hS.b1.other (by omega) _).set _, (hS.bel.setCell (p := ⟨w.heap.size, 0, none⟩) (Nat.le_refl _) _).setCell (p := ⟨w.heap.size + 1, 0, none⟩) (by simp) _, x, by simp, hbad⟩ :
      TEnd w ((W.setCell ⟨w.heap.size, 0, none⟩ (.slice none 0 0)).setCell ⟨w.heap.size + 1, 0, none⟩ (.int .i64 4)) l0 (pre ++ [x])))
    have KK := Aside0.mk (((KeepsOthers.setCell W ⟨w.heap.size, 0, none⟩ (.slice none 0 0)).trans (KeepsOthers.setCell _ ⟨w.heap.size + 1, 0, none⟩ (.int .i64 4))).from (w.heap.size + 5))
    by_cases hful : 32 * (x + 1) ≤ len
    · obtain ⟨ad, ead, hA⟩ := Kd.at_int HR.out ((32 * x : Nat) : Int) (by omega) (by have := HLN.out; omega)
      obtain ⟨ad1, ead1, hB⟩ := Kd.at_int HR.out ((32 * x + 1 : Nat) : Int) (by omega) (by have := HLN.out; omega)
      obtain rfl : ad = ad1 := by rw [ead] at ead1; injection ead1
      rw [Int.toNat_natCast] at hA hB
      have hA := (hS.bel.cell (World.block_lt_of_cell? w _ hA)).trans hA
      have hB := (hS.bel.cell (World.block_lt_of_cell? w _ hB)).trans hB
      have e0 : rd l0 ((32 * x : Nat) : Int) = l0.getD (32 * x) 0 := rfl
      have e1 : rd l0 ((32 * x + 1 : Nat) : Int) = l0.getD (32 * x + 1) 0 := rfl
      rw [e0] at hA
      rw [e1] at hB
      have hb0 := byte_get HBY.out (32 * x)
      have hb1 := byte_get HBY.out (32 * x + 1)
      obtain ⟨n0, hn0⟩ : ∃ n, l0.getD (32 * x) 0 = n := ⟨_, rfl⟩
      obtain ⟨n1, hn1⟩ : ∃ n, l0.getD (32 * x + 1) 0 = n := ⟨_, rfl⟩
      rw [hn0] at hA hb0
      rw [hn1] at hB hb1
      have hw0 : IntKind.i64.wrap n0 = n0 := by rw [i64_w]; unfold wrap64; omega
      have hw1 : IntKind.i64.wrap n1 = n1 := by rw [i64_w]; unfold wrap64; omega
      have hm : min 32 (len - 32 * x) = 32 := by omega
      unfold chunkV
      rw [hm]
      subst ead
      simp only [Option.map_some]
      have hB' : W.cell? ((ad.add (32 * x)).add 1) = some (.int .u8 n1) := by rw [Addr.add_add]; exact hB
      have hA' : W.cell? (ad.add (32 * x)) = some (.int .u8 n0) := hA
      obtain ⟨cd, hcd⟩ : ∃ cd, ad.add (32 * x) = cd := ⟨_, rfl⟩
      rw [hcd] at hA' hB' ⊢
      rw [show cd.add 1 = _ from Addr.add_succ' cd 0] at hB'
      by_cases h28 : 28 < n1
      · have hbad : takeOk l0 x = false := by unfold takeOk; rw [hn1, decide_eq_false (show ¬ n1 ≤ 28 by omega), Bool.and_false]
        have EB := Aside0.mk (EE.out hbad)
        clear hS EE hA hB hn0 hn1 hbad HR hb0 hb1 hw0 hm hcd e0 e1
        gi_wp2
        exact ⟨KK.out, rfl, EB.out⟩
      · have hgood : takeOk l0 x = true := by unfold takeOk; rw [HLN.out, hn1, decide_eq_true hful, decide_eq_true (show n1 ≤ 28 by omega)]; rfl
        have hu47 := Tryd.underlying47
        -- the cut, and its text
        have hL : ((l0.drop (32 * x)).take 32).length = 32 := by rw [List.length_take, List.length_drop]; have := HLN.out; omega
        obtain ⟨i8, hi8, hs8⟩ := sz8
        obtain ⟨A', hcut, hrd, hcc⟩ := print_mid_of (P := Tryd.prog) (Value.int .u8) 0 40 5 .i64 .u8 Tryd.underlying40 hi8 hs8 (some cd) 32 ((l0.drop (32 * x)).take 32) 2 (2 + n1) (by omega) (by omega) (by omega) (by omega)
        rw [hL] at hcut hrd
        have hstr : ((((l0.drop (32 * x)).take 32).take (2 + n1).toNat).drop (2 : Int).toNat) = (l0.drop (32 * x + 2)).take n1.toNat := by
          rw [List.take_take, show min (2 + n1).toNat 32 = 2 + n1.toNat by omega, show (2 : Int).toNat = 2 from rfl, List.drop_take, List.drop_drop, show 2 + n1.toNat - 2 = n1.toNat by omega]
        rw [hstr] at hcut hrd hcc
        have hrw : ReadsOf (Value.int .u8) 0 W (some cd) 32 ((l0.drop (32 * x)).take 32) := by
          refine ⟨hL, by omega, fun _ => ⟨cd, rfl, fun j hj => ?_⟩⟩
          obtain ⟨adj, eadj, hj1⟩ := Kd.at_int HR.out ((32 * x + j : Nat) : Int) (by omega) (by have := HLN.out; omega)
          obtain rfl : ad = adj := by injection eadj
          rw [Int.toNat_natCast] at hj1
          have hj2 := (hS.bel.cell (World.block_lt_of_cell? w _ hj1)).trans hj1
          rw [← hcd, Addr.add_add, hj2]
          refine congrArg (fun z => some (Value.int .u8 z)) ?_
          unfold rd
          rw [Int.toNat_natCast, List.getD_eq_getElem?_getD, List.getD_eq_getElem?_getD, List.getElem?_take_of_lt hj, List.getElem?_drop]
        have hC8 : (Kd.int .u8).C W A' ((l0.drop (32 * x + 2)).take n1.toNat).length ((l0.drop (32 * x + 2)).take n1.toNat) := Kd.C_of_reads (h1 := fun _ => rfl) (hrd W hrw)
        have hent : entAt l0 x = ⟨n0, strOfNums ((l0.drop (32 * x + 2)).take n1.toNat)⟩ := by unfold entAt; rw [hn0, hn1]
        have C8 := Aside0.mk hC8
        obtain ⟨tl, htl⟩ : ∃ tl, (l0.drop (32 * x + 2)).take n1.toNat = tl := ⟨_, rfl⟩
        rw [htl] at hcut hent C8
        obtain ⟨s, hs⟩ : ∃ s, strOfNums tl = s := ⟨_, rfl⟩
        rw [hs] at hent
        have HENT := Aside0.mk hent
        have HS := Aside0.mk hs
        have HG := Aside0.mk hgood
        have hu : IntKind.u8.wrap (2 + n1) = 2 + n1 := by unfold IntKind.wrap; simp [IntKind.bits, IntKind.signed]; omega
        clear hS EE hA hB hn0 hn1 hgood hm hcd e0 e1 hL hrd hcc hstr hrw hC8 hent hs htl hi8 hs8 ead1 k0 k1 f0 f1 KK
        replace hcut : ∀ W : World, (Instr.slice 40 (.slice (some cd) 32 32) (some (.int .i64 2)) (some (.int .u8 (2 + n1))) none).run Tryd.prog W = .ok (.slice A' tl.length 30) W := hcut
        gi_wp2
        refine wpIn_region_any_round2 (by kernel_rfl) (by kernel_rfl) ?_
        refine any_growU 14 (fun a b => Below a.heap.size a b) (fun | 13 => some (fun v w' => ∃ b, v = .slice (some ⟨b, 0, none⟩) 1 1 ∧ w'.heap[b]? = some (.cells #[.int .i64 n0, .string s] 47 (0, 0))) | _ => none) (by kernel_rfl) (by kernel_rfl) (by kernel_rfl) (by kernel_rfl) (fun _ => Below.refl _ _) (fun _ _ _ => below_step) ?_ ?_
        · intro i V hV v w1 w2 hr hv
          split at hV
          · cases hV
            obtain ⟨b, h1, h2⟩ := hv
            exact ⟨b, h1, (hr.block b (Array.getElem?_eq_some_iff.1 h2).1).trans h2⟩
          · cases hV
        simp only [List.zipIdx_cons, List.zipIdx_nil, Nat.zero_add, Nat.reduceAdd, List.take_succ_cons, List.take_zero, List.drop_succ_cons, List.drop_zero]
        iterate 13 (refine grow_read ?_ rfl (fun w' hr _ => ?_) ?_; rotate_left 1; (have g0 := (hr.cell (World.block_lt_of_cell? W.drew _ hA')).trans hA'; have g1 := (hr.cell (World.block_lt_of_cell? W.drew _ hB')).trans hB'; have g2 := (hr.cell (World.block_lt_of_cell? W.drew _ k2)).trans k2; have g3 := Kd.C_string (P := Tryd.prog) (A := A') (c := 30) Tryd.underlying40 Tryd.underlying5 Tryd.underlying9 (Kd.C_below C8.out (below_step (below_drew1 (Below.refl _ _)) hr)); rw [HS.out] at g3; unfold Runs; go_simp; rfl); try simp only [Act.put, List.setIfInBounds_toArray, List.set_cons_zero, List.set_cons_succ])
        refine grow_pred _ rfl (fun w' hr _ => ?_) (fun v => ?_)
        · unfold Gives gives
          go_simp
          exact ⟨below_alloc (Below.refl _ _) _, (Array.getElem?_eq_some_iff.1 (blk_new w' _)).2⟩
        try simp only [Act.put, List.setIfInBounds_toArray, List.set_cons_zero, List.set_cons_succ]
        refine grow_end (fun w3 hr hf => ?_)
        have hf13 := hf 13
        rw [upd_self] at hf13
        obtain ⟨b, rfl, hb⟩ := hf13
        clear hf
        have hB3 : Below W.heap.size W w3 := below_step (below_drew1 (Below.refl _ _)) hr
        have hrow : Kd.R k47 47 w3 w.heap.size (fun _ => True) v (pre.map (entAt l0)) := Kd.R_below S.out.row hB3
        have hb2 : Boxed w3 (w.heap.size + 2) 38 v := blk_below S.out.b2 hB3
        have hb0 : Boxed w3 w.heap.size 38 (.slice none 0 0) := blk_below S.out.b0 hB3
        have hb1 : Boxed w3 (w.heap.size + 1) 25 (.int .i64 0) := blk_below S.out.b1 hB3
        have hcnt : pre.length ≤ 34359738368 := by omega
        have hCx : ReadsRow (k47.K w3) k47.sz w3 (some ⟨b, 0, none⟩) 1 [(⟨n0, s⟩ : S47)] := by
          refine ⟨rfl, by omega, fun _ => ⟨_, rfl, fun j p hj => ?_⟩⟩
          match j, hj with
          | 0, hj =>
            cases hj
            refine ⟨[.int .i64 n0, .string s], rfl, k47_mk w3 ⟨n0, s⟩, fun i u hu => ?_⟩
            match i, hu with
            | 0, hu => cases hu; simp [World.cell?, Addr.add, hb]
            | 1, hu => cases hu; simp [World.cell?, Addr.add, hb]
          | j + 1, hj => simp at hj
        refine Kd.R_append_rows k47 (w0 := w) w.heap.size rfl (.tmp 21) (.tmp 34) 38 47 (.agg #[(.int .i64 0), (.string ⟨#[]⟩)]) 24 rfl Tryd.underlying38 info47 rfl (by decide) (by decide) v (pre.map (entAt l0)) [⟨n0, s⟩] (some ⟨b, 0, none⟩) 1 1 (fun _ => True) (fun _ => False) rfl rfl hrow hCx (fun _ _ h => h) (fun _ h => h.elim) (fun _ _ => trivial) (below_step S.out.bel hB3) (by have := S.out.bel.size; have := hB3.size; omega) (by rw [List.length_map]; omega) ?_
        intro v1 w4 ho1 hbl hg1 hat1
        have n2 : some (w.heap.size + 2) ≠ v.ownBlock := Kd.R_ne hrow hb2 (by decide)
        have q2 := hb2.kept hg1 n2
        have q0 := hb0.kept hg1 (Kd.R_ne hrow hb0 (by decide))
        have q1 := hb1.kept hg1 (Kd.R_ne hrow hb1 (by decide))
        have hkp : KpC (w.heap.size + 3) (w.heap.size + 4) W w4 := (KpC.below hB3).trans ⟨fun u hu => hu.kept hg1 (Kd.R_ne hrow hu (by decide)), fun u hu => hu.kept hg1 (Kd.R_ne hrow hu (by decide))⟩
        have hkf : KeepsFrom (w.heap.size + 5) W w4 := by
          refine ⟨Nat.le_trans hB3.size hg1.size, fun k o _ hk ho => ?_⟩
          have h3 := (hB3.block k (Array.getElem?_eq_some_iff.1 hk).1).trans hk
          refine (hg1.block k (Array.getElem?_eq_some_iff.1 h3).1 (fun e => ?_)).trans h3
          obtain ⟨cells, hc⟩ := own_typed (Kd.R_own hrow).choose_spec k e.symm
          rw [hc] at h3
          cases h3
          cases ho
        have hfin : TSt w (w4.setCell ⟨w.heap.size + 2, 0, none⟩ v1) l0 v1 (pre ++ [x]) :=
          ⟨q0.other (by omega) _, q1.other (by omega) _, q2.set _, by
            rw [List.map_append, List.map_cons, List.map_nil, HENT.out]
            exact Kd.R_set ho1 q2 k47_ne 0 _, hbl.setCell (p := ⟨w.heap.size + 2, 0, none⟩) (by simp) _, fun k hk => by
            rcases List.mem_append.1 hk with hk | hk
            · exact S.out.ok k hk
            · rw [List.mem_singleton.1 hk]; exact HG.out⟩
        have FIN := Aside0.mk hfin
        have KP := Aside0.mk hkp
        have KF := Aside0.mk hkf
        have p2 := q2.cell
        have pf2 := q2.frozen
        obtain ⟨A1, c1, hv1⟩ := Kd.R_slice ho1
        rw [List.length_append, List.length_map, List.length_singleton] at hv1
        subst hv1
        clear hfin hkp hkf q0 q1 ho1 hbl hg1 hat1 hrow hb2 hb0 hb1 hCx hB3 hr hb hu hcut C8 HS HENT HG S hA hB hB' hA' hw0 hw1 HR k2
        go_wp2
        refine ⟨rfl, ?_⟩
        gi_wp2
        exact ⟨KF.out.trans ((KeepsOthers.setCell _ _ _).from _), KP.out.trans ⟨fun u hu => hu.other (by omega) _, fun u hu => hu.other (by omega) _⟩, _, FIN.out⟩
    · obtain ⟨m, hm⟩ : ∃ m, min 32 (len - 32 * x) = m := ⟨_, rfl⟩
      have hm32 : (m : Int) < 32 := by omega
      have hbad : takeOk l0 x = false := by
        unfold takeOk
        rw [HLN.out, decide_eq_false hful]
        rfl
      have EB := Aside0.mk (EE.out hbad)
      clear hS EE hbad
      unfold chunkV
      rw [hm]
      clear hm
      gi_wp2
      exact ⟨KK.out, rfl, EB.out⟩
  case done =>
    rintro D ys W hD rfl ⟨v, hS⟩ hK
    have S := Aside0.mk hS
    have hlc : (len + 31) / 32 = chunks l0 := by unfold chunks; rw [HLN.out]
    have hok : (List.range (chunks l0)).all (takeOk l0) = true := List.all_eq_true.2 fun k hk => hS.ok k (by rw [hlc]; exact hk)
    have h := H.out
    rw [if_pos hok] at h
    obtain ⟨p, hp⟩ : ∃ p, layout_PutEntries.f ((List.range (chunks l0)).map (entAt l0)) = some p := by
      unfold layout_PutEntries.f
      split
      · exact ⟨_, rfl⟩
      · split <;> exact ⟨_, rfl⟩
    rw [hp, Option.bind_some] at h
    have hrow := hS.row
    rw [hlc] at hrow
    obtain ⟨es, hes⟩ : ∃ es, (List.range (chunks l0)).map (entAt l0) = es := ⟨_, rfl⟩
    rw [hes] at h hp hrow
    obtain ⟨Ar, cr, hv, hcr, hCr⟩ := Kd.R_reads hrow
    have k2 := hS.b2.cell
    have hcl := layout_PutEntries.calls Ar cr _ p.1 p.2 W hCr hcr hp
    obtain ⟨nn, hnn⟩ : ∃ n, es.length = n := ⟨_, rfl⟩
    rw [hnn] at hcl hv
    subst hv
    obtain ⟨p1, p2⟩ := p
    have P := Aside0.mk h
    have R := Aside0.mk hrow
    clear h hok hp hrow hcr hCr hS H hnn hes hlc
    have hD' : w.heap.size + 5 ≤ D := by omega
    clear hD hz5 hOwn hOwnX x3 x4 x5
    by_cases c1 : p2 = 0
    · by_cases c2 : (strOfNums p1).toList = (strOfNums l0).toList
      · have h := P.out
        rw [if_pos ⟨c1, c2⟩] at h
        simp only [Option.some.injEq, Prod.mk.injEq] at h
        obtain ⟨rfl, rfl⟩ := h
        subst c1
        have c2b : ((strOfNums p1).toList == (strOfNums l0).toList) = true := by rw [c2]; exact beq_self_eq_true _
        have c2n : ((strOfNums p1).toList != (strOfNums l0).toList) = false := by rw [bne, c2b]; rfl
        clear P c2
        gi_wp2_with (refine ⟨trivial, ?_⟩; gi_at_call 22; refine (callsIn_wide.2 hcl).mono ?_; clear hcl; rintro e w1 ⟨v0, rfl, hrow0, hbl0⟩; obtain ⟨Aw, cw, hv0, hcw, hCw⟩ := Kd.R_reads hrow0; have s1 := Kd.C_string (P := Tryd.prog) (A := Aw) (c := cw) Tryd.underlying40 Tryd.underlying5 Tryd.underlying9 hCw; have s2 := Kd.C_string (P := Tryd.prog) (A := A0) (c := c0) Tryd.underlying40 Tryd.underlying5 Tryd.underlying9 (Kd.C_below HR.out (below_step S.out.bel hbl0)); obtain ⟨nw, hnw⟩ : ∃ n, p1.length = n := ⟨_, rfl⟩; rw [hnw] at hv0 s1; rw [HLN.out] at s2; subst hv0; have B0 := blk_below S.out.b0 hbl0; have B1 := blk_below S.out.b1 hbl0; have B2 := blk_below S.out.b2 hbl0; have e0 := Boxed.cell B0; have e1 := Boxed.cell B1; have e2 := Boxed.cell B2; have f0 := Boxed.frozen B0; have f1 := Boxed.frozen B1; have BB := Aside0.mk (And.intro B0 (And.intro B1 B2)); have BL := Aside0.mk hbl0; clear B0 B1 B2 hbl0 hcw hCw hrow0 hnw k2)
        have hK1 : w1.heap[D]? = some (.deferred (some [])) := blk_below hK BL.out
        have hK2 := (KeepsOthers.setCell _ ⟨w.heap.size + 1, 0, none⟩ (.int .i64 0)).same D _ ((KeepsOthers.setCell w1 ⟨w.heap.size, 0, none⟩ (.slice Ar nn cr)).same D _ hK1 rfl) rfl
        refine ⟨by simp, .inl ⟨_, _, rfl, run_takeDeferred hK2, ?_⟩⟩
        have z0 := (Boxed.set (.slice Ar nn cr) BB.out.1).other (B' := w.heap.size + 1) (by omega) (.int .i64 0)
        have z1 := (Boxed.other BB.out.2.1 (B' := w.heap.size) (by omega) (.slice Ar nn cr)).set (.int .i64 0)
        have c0' := cell_kept z0.cell (grownBy_putObj' _ D (.deferred none)) (fun r e => by cases e; exact ⟨_, hK2, rfl⟩)
        have c1' := cell_kept z1.cell (grownBy_putObj' _ D (.deferred none)) (fun r e => by cases e; exact ⟨_, hK2, rfl⟩)
        have hb2 := ((below_step S.out.bel BL.out).setCell (p := ⟨w.heap.size, 0, none⟩) (Nat.le_refl _) (.slice Ar nn cr)).setCell (p := ⟨w.heap.size + 1, 0, none⟩) (by simp) (.int .i64 0)
        refine ⟨_, ?_, _, rfl, row_put (Kd.R_set (Kd.R_set (Kd.R_below R.out BL.out) BB.out.1 k47_ne 0 _) (Boxed.other BB.out.2.1 (B' := w.heap.size) (by omega) _) k47_ne' 0 _) hK2 rfl _, hb2.trans (belowK_b (w := w) (Nat.le_refl _) _ D _ _ (by omega) hK2 rfl rfl)⟩
        simp [results, Tryd.f24, go_sem, c0', c1']
      · have h := P.out
        rw [if_neg (fun e => c2 e.2)] at h
        simp only [Option.some.injEq, Prod.mk.injEq] at h
        obtain ⟨rfl, rfl⟩ := h
        subst c1
        have c2b : ((strOfNums p1).toList == (strOfNums l0).toList) = false := by simpa using c2
        have c2n : ((strOfNums p1).toList != (strOfNums l0).toList) = true := by rw [bne, c2b]; rfl
        clear P c2
        gi_wp2_with (refine ⟨trivial, ?_⟩; gi_at_call 22; refine (callsIn_wide.2 hcl).mono ?_; clear hcl; rintro e w1 ⟨v0, rfl, hrow0, hbl0⟩; obtain ⟨Aw, cw, hv0, hcw, hCw⟩ := Kd.R_reads hrow0; have s1 := Kd.C_string (P := Tryd.prog) (A := Aw) (c := cw) Tryd.underlying40 Tryd.underlying5 Tryd.underlying9 hCw; have s2 := Kd.C_string (P := Tryd.prog) (A := A0) (c := c0) Tryd.underlying40 Tryd.underlying5 Tryd.underlying9 (Kd.C_below HR.out (below_step S.out.bel hbl0)); obtain ⟨nw, hnw⟩ : ∃ n, p1.length = n := ⟨_, rfl⟩; rw [hnw] at hv0 s1; rw [HLN.out] at s2; subst hv0; have B0 := blk_below S.out.b0 hbl0; have B1 := blk_below S.out.b1 hbl0; have B2 := blk_below S.out.b2 hbl0; have e0 := Boxed.cell B0; have e1 := Boxed.cell B1; have e2 := Boxed.cell B2; have f0 := Boxed.frozen B0; have f1 := Boxed.frozen B1; have BB := Aside0.mk (And.intro B0 (And.intro B1 B2)); have BL := Aside0.mk hbl0; clear B0 B1 B2 hbl0 hcw hCw hrow0 hnw k2)
        have hK1 : w1.heap[D]? = some (.deferred (some [])) := blk_below hK BL.out
        have hK2 := (KeepsOthers.setCell _ ⟨w.heap.size + 1, 0, none⟩ (.int .i64 4)).same D _ ((KeepsOthers.setCell w1 ⟨w.heap.size, 0, none⟩ (.slice none 0 0)).same D _ hK1 rfl) rfl
        refine ⟨by simp, .inl ⟨_, _, rfl, run_takeDeferred hK2, ?_⟩⟩
        have z0 := (Boxed.set (.slice none 0 0) BB.out.1).other (B' := w.heap.size + 1) (by omega) (.int .i64 4)
        have z1 := (Boxed.other BB.out.2.1 (B' := w.heap.size) (by omega) (.slice none 0 0)).set (.int .i64 4)
        have c0' := cell_kept z0.cell (grownBy_putObj' _ D (.deferred none)) (fun r e => by cases e; exact ⟨_, hK2, rfl⟩)
        have c1' := cell_kept z1.cell (grownBy_putObj' _ D (.deferred none)) (fun r e => by cases e; exact ⟨_, hK2, rfl⟩)
        have hb2 := ((below_step S.out.bel BL.out).setCell (p := ⟨w.heap.size, 0, none⟩) (Nat.le_refl _) (.slice none 0 0)).setCell (p := ⟨w.heap.size + 1, 0, none⟩) (by simp) (.int .i64 4)
        refine ⟨_, ?_, _, rfl, Kd.R_nil _ _ _ _ _, hb2.trans (belowK_b (w := w) (Nat.le_refl _) _ D _ _ (by omega) hK2 rfl rfl)⟩
        simp [results, Tryd.f24, go_sem, c0', c1']
    · have h := P.out
      rw [if_neg (fun e => c1 e.1)] at h
      simp only [Option.some.injEq, Prod.mk.injEq] at h
      obtain ⟨rfl, rfl⟩ := h
      clear P
      gi_wp2_with (refine ⟨trivial, ?_⟩; gi_at_call 22; refine (callsIn_wide.2 hcl).mono ?_; clear hcl; rintro e w1 ⟨v0, rfl, hrow0, hbl0⟩; obtain ⟨Aw, cw, hv0, hcw, hCw⟩ := Kd.R_reads hrow0; have s1 := Kd.C_string (P := Tryd.prog) (A := Aw) (c := cw) Tryd.underlying40 Tryd.underlying5 Tryd.underlying9 hCw; have s2 := Kd.C_string (P := Tryd.prog) (A := A0) (c := c0) Tryd.underlying40 Tryd.underlying5 Tryd.underlying9 (Kd.C_below HR.out (below_step S.out.bel hbl0)); obtain ⟨nw, hnw⟩ : ∃ n, p1.length = n := ⟨_, rfl⟩; rw [hnw] at hv0 s1; rw [HLN.out] at s2; subst hv0; have B0 := blk_below S.out.b0 hbl0; have B1 := blk_below S.out.b1 hbl0; have B2 := blk_below S.out.b2 hbl0; have e0 := Boxed.cell B0; have e1 := Boxed.cell B1; have e2 := Boxed.cell B2; have f0 := Boxed.frozen B0; have f1 := Boxed.frozen B1; have BB := Aside0.mk (And.intro B0 (And.intro B1 B2)); have BL := Aside0.mk hbl0; clear B0 B1 B2 hbl0 hcw hCw hrow0 hnw k2)
      have hK1 : w1.heap[D]? = some (.deferred (some [])) := blk_below hK BL.out
      have hK2 := (KeepsOthers.setCell _ ⟨w.heap.size + 1, 0, none⟩ (.int .i64 4)).same D _ ((KeepsOthers.setCell w1 ⟨w.heap.size, 0, none⟩ (.slice none 0 0)).same D _ hK1 rfl) rfl
      refine ⟨by simp, .inl ⟨_, _, rfl, run_takeDeferred hK2, ?_⟩⟩
      have z0 := (Boxed.set (.slice none 0 0) BB.out.1).other (B' := w.heap.size + 1) (by omega) (.int .i64 4)
      have z1 := (Boxed.other BB.out.2.1 (B' := w.heap.size) (by omega) (.slice none 0 0)).set (.int .i64 4)
      have c0' := cell_kept z0.cell (grownBy_putObj' _ D (.deferred none)) (fun r e => by cases e; exact ⟨_, hK2, rfl⟩)
      have c1' := cell_kept z1.cell (grownBy_putObj' _ D (.deferred none)) (fun r e => by cases e; exact ⟨_, hK2, rfl⟩)
      have hb2 := ((below_step S.out.bel BL.out).setCell (p := ⟨w.heap.size, 0, none⟩) (Nat.le_refl _) (.slice none 0 0)).setCell (p := ⟨w.heap.size + 1, 0, none⟩) (by simp) (.int .i64 4)
      refine ⟨_, ?_, _, rfl, Kd.R_nil _ _ _ _ _, hb2.trans (belowK_b (w := w) (Nat.le_refl _) _ D _ _ (by omega) hK2 rfl rfl)⟩
      simp [results, Tryd.f24, go_sem, c0', c1']
  case stop =>
    rintro D c pre W hD hpre ⟨rfl, hE⟩ hK
    have h := H.out
    have hbad : ¬ (List.range (chunks l0)).all (takeOk l0) = true := by
      intro e
      obtain ⟨k, hk, hb⟩ := hE.bad
      obtain ⟨q, hq, rfl⟩ := hpre
      have := List.all_eq_true.1 e k (by rw [List.mem_range] at hk ⊢; unfold chunks; rw [HLN.out]; omega)
      rw [hb] at this
      cases this
    rw [if_neg hbad] at h
    simp only [Option.some.injEq, Prod.mk.injEq] at h
    obtain ⟨rfl, rfl⟩ := h
    gi_wp2
    refine ⟨by simp, .inl ⟨_, _, rfl, run_takeDeferred hK, ?_⟩⟩
    have c0' := cell_kept hE.b0.cell (grownBy_putObj' _ D (.deferred none)) (fun r e => by cases e; exact ⟨_, hK, rfl⟩)
    have c1' := cell_kept hE.b1.cell (grownBy_putObj' _ D (.deferred none)) (fun r e => by cases e; exact ⟨_, hK, rfl⟩)
    refine ⟨_, ?_, _, rfl, Kd.R_nil _ _ _ _ _, hE.bel.trans (belowK_b (w := w) (Nat.le_refl _) W D _ _ (by omega) hK rfl rfl)⟩
    simp [results, Tryd.f24, go_sem, c0', c1']

end Go.Proofs.YtgppfalpncbmbaaDoor.PE
