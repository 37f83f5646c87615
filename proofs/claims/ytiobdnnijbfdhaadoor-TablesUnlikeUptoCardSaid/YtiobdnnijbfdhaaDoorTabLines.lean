/- strings.Lines: its closure, called as an iterator that writes its box. -/
import Derived.Test.YtiobdnnijbfdhaaDoorTabPrint
import Derived.Test.YtiobdnnijbfdhaaDoorSeqBox
import Derived.Test.YtiobdnnijbfdhaaDoorGrowIn
import Derived.Lib.IndexLaws
import Derived.LoopIn
import Derived.LoopNIn
import Derived.TacticsInMore
import Derived.OwnWalkIn
namespace Go.Proofs.YtiobdnnijbfdhaaDoor.PT
open Go.RowKit Go.Proofs.YtiobdnnijbfdhaaDoorW.PrintWords Go.Proofs.YtiobdnnijbfdhaaDoorW.PrintLast Go.Proofs.YtiobdnnijbfdhaaDoorW.PrintMore
set_option linter.unusedVariables false
set_option linter.unusedSimpArgs false
attribute [local go_sem] Oper.semAt_some
def linesB : Nat → ByteArray → List ByteArray
  | 0, _ => []
  | n + 1, s => if s.size = 0 then [] else if 0 ≤ Lib.indexByte s.data.toList 10 then s.extract 0 ((Lib.indexByte s.data.toList 10).toNat + 1) :: linesB n (s.extract ((Lib.indexByte s.data.toList 10).toNat + 1) s.size) else [s]
theorem index_lt (s : ByteArray) (h : 0 ≤ Lib.indexByte s.data.toList 10) : (Lib.indexByte s.data.toList 10).toNat < s.size := by
  obtain ⟨o, ho⟩ := Int.eq_ofNat_of_zero_le h
  have h1 := (Lib.indexByte_some ho).1
  rw [ho, Int.toNat_natCast]
  have h2 := (List.getElem?_eq_some_iff.1 h1).1
  rw [Array.length_toList] at h2
  exact h2
theorem linesB_fuel : ∀ (n m : Nat) (s : ByteArray), s.size ≤ n → s.size ≤ m → linesB n s = linesB m s := by
  intro n
  induction n with
  | zero =>
    intro m s h1 h2
    cases m with
    | zero => rfl
    | succ m => unfold linesB; rw [if_pos (by omega)]
  | succ n ih =>
    intro m s h1 h2
    cases m with
    | zero => unfold linesB; rw [if_pos (by omega)]
    | succ m =>
      unfold linesB
      by_cases h0 : s.size = 0
      · rw [if_pos h0, if_pos h0]
      · rw [if_neg h0, if_neg h0]
        by_cases hi : 0 ≤ Lib.indexByte s.data.toList 10
        · rw [if_pos hi, if_pos hi]
          have := index_lt s hi
          rw [ih m _ (by rw [ByteArray.size_extract]; omega) (by rw [ByteArray.size_extract]; omega)]
        · rw [if_neg hi, if_neg hi]
def linesOf (s : ByteArray) : List ByteArray := linesB s.size s
theorem lines_more (s : ByteArray) (h0 : 0 < s.size) (hi : 0 ≤ Lib.indexByte s.data.toList 10) : linesOf s = s.extract 0 ((Lib.indexByte s.data.toList 10).toNat + 1) :: linesOf (s.extract ((Lib.indexByte s.data.toList 10).toNat + 1) s.size) := by
  unfold linesOf
  obtain ⟨n, hn⟩ : ∃ n, s.size = n + 1 := ⟨s.size - 1, by omega⟩
  rw [linesB_fuel s.size (n + 1) s (Nat.le_refl _) (by omega)]
  rw [linesB, if_neg (by omega), if_pos hi]
  have := index_lt s hi
  rw [linesB_fuel n _ _ (by rw [ByteArray.size_extract]; omega) (Nat.le_refl _)]
theorem lines_last (s : ByteArray) (h0 : 0 < s.size) (hi : ¬ 0 ≤ Lib.indexByte s.data.toList 10) : linesOf s = [s] := by
  unfold linesOf
  obtain ⟨n, hn⟩ : ∃ n, s.size = n + 1 := ⟨s.size - 1, by omega⟩
  rw [linesB_fuel s.size (n + 1) s (Nat.le_refl _) (by omega)]
  rw [linesB, if_neg (by omega), if_neg hi]
theorem lines_none (s : ByteArray) (h0 : s.size = 0) : linesOf s = [] := by
  unfold linesOf
  rw [h0]
  rfl
set_option maxRecDepth 100000 in
theorem index_calls (s : ByteArray) (w : World) : Calls Tryd.prog 51 #[.string s, .int .u8 10] w fun e w' => e = .returned (.int .i64 (Lib.indexByte s.data.toList 10)) ∧ Drawn0 w w' := by
  go_enter Tryd.func51, Tryd.ntmps51
  go_wp2_with (go_at_call 65; refine (stringslite_IndexByte.calls s 10 _ w rfl).mono ?_; rintro e w' ⟨rfl, nd, rfl⟩)
  go_ret
  exact ⟨rfl, nd, rfl⟩
def KpL (Bs : Nat) (A B : World) : Prop := ∀ v, Boxed A Bs 9 v → Boxed B Bs 9 v
theorem KpL.trans {Bs : Nat} {A B C : World} (h : KpL Bs A B) (k : KpL Bs B C) : KpL Bs A C := fun o e => k o (h o e)
theorem KpL.put {Bs : Nat} {w : World} (h1 : Bs < w.heap.size) (W : World) (l : Nat) (o o' : Obj) (hl : w.heap.size ≤ l) (h : W.heap[l]? = some o) (_ : o.isCells = false) (_ : o.isWalk = false) : KpL Bs W (W.putObj l o') :=
  fun q e => (World.putObj_heap_other (by omega)).trans e
def left (w : World) (Bs : Nat) : Nat := match w.cell? ⟨Bs, 0, none⟩ with | some (.string r) => r.size | _ => 0
theorem left_eq {w : World} {Bs : Nat} {r : ByteArray} (h : Boxed w Bs 9 (.string r)) : left w Bs = r.size := by unfold left; rw [h.cell]
set_option maxRecDepth 100000 in
set_option maxHeartbeats 4000000 in
theorem lines1 (n : Nat) (hn : 1 ≤ n) (l Bs : Nat) (s : ByteArray) (hlen : s.size ≤ 4611686018427387904) (J Jx : List ByteArray → World → Prop)
    (W : World) (hJ : AbidesFrom W.heap.size J) (hB : BoxAb Bs 9 J)
    (hY : ∀ pre x W, J pre W → (∃ suf, linesOf s = (pre ++ [x]) ++ suf) → YieldAt Fence.wide (n - 1) Tryd.prog l #[.string x] W fun e W' =>
      (e = .returned (.bool true) ∧ J (pre ++ [x]) W' ∧ KpL Bs W W') ∨ (e = .returned (.bool false) ∧ Jx (pre ++ [x]) W'))
    (hBs : Boxed W Bs 9 (.string s)) (h0 : J [] W) :
    CallsIn Fence.wide n Tryd.prog 50 #[.func (.yield l) #[] #[], .pointer (some ⟨Bs, 0, none⟩)] W fun e W' => (∃ v, e = .returned v) ∧
      ((∃ ys, ys = linesOf s ∧ J ys W') ∨ (∃ pre, (∃ suf, linesOf s = pre ++ suf) ∧ Jx pre W')) := by
  refine callsIn_of_wp Tryd.func50 rfl trivial ?_ rfl
  simp only [Tryd.ntmps50, List.size_toArray, List.length_cons, List.length_nil, Nat.reduceAdd, Nat.reduceSub, Array.replicate_succ, Array.replicate_zero, List.push_toArray, List.append_toArray, List.nil_append, List.cons_append]
  gi_wp2
  gi_loopw [3, 4] (fun _ _ wr => ∃ (pre : List ByteArray) (r : ByteArray), linesOf s = pre ++ linesOf r ∧ r.size ≤ 4611686018427387904 ∧ J pre wr ∧ Boxed wr Bs 9 (.string r))
    (fun _ _ wr => left wr Bs)
  case atStart => exact ⟨[], s, rfl, hlen, h0, hBs⟩
  case round =>
    obtain ⟨pre, r, hpr, hrl, hJs, b1⟩ := hrel
    have c1 := b1.cell
    have f1 := b1.frozen
    by_cases hr0 : 0 < r.size
    · have hri : (0 : Int) < (r.size : Int) := by omega
      by_cases hi : 0 ≤ Lib.indexByte r.data.toList 10
      · have hlt := index_lt r hi
        have hmore := lines_more r hr0 hi
        have hic := index_calls r wr
        obtain ⟨i, hix⟩ := Int.eq_ofNat_of_zero_le hi
        rw [hix, Int.toNat_natCast] at hlt hmore
        rw [hix] at hic
        have HM := Aside0.mk hmore
        have HIC := Aside0.mk hic
        have HPR := Aside0.mk hpr
        clear hmore hic hix hi hpr
        gi_wp2_with (refine ⟨trivial, ?_⟩; gi_at_call 51; refine (callsIn_wide.2 HIC.out).mono ?_; rintro e w' ⟨rfl, nd, rfl⟩)
        have hJ1 : J pre (wr.drewN nd).drew := hJ _ wr _ none hJs ⟨rfl, rfl, rfl, Nat.le_refl _, fun _ _ _ => rfl⟩ (fun r e => by cases e)
        have b2 : Boxed (wr.drewN nd).drew Bs 9 (.string r) := b1
        have hlf : left wr Bs = r.size := left_eq b1
        have HLF := Aside0.mk hlf
        clear hJs b1 c1 f1 hlf
        refine wpIn_wide.2 ?_
        refine wp_region_growT 9 (fun a b => b = a) (fun _ => none) (by kernel_rfl) (by kernel_rfl) (by kernel_rfl) (by kernel_rfl) (by kernel_rfl) (fun _ => rfl) (fun _ _ _ h k => k.trans h) (fun i V hV => by cases hV) ?_
        generalize (wr.drewN nd).drew = wx at hJ1 b2 ⊢
        have c1 := b2.cell
        have f1 := b2.frozen
        have HWW := Aside0.mk (show IntKind.i64.wrap ((i : Int) + 1) = (i : Int) + 1 by rw [IntKind.wrap_i64]; omega)
        have HW1 := Aside0.mk (show (0 ≤ (i : Int) + 1) = True from eq_true (by omega))
        have HW2 := Aside0.mk (show ((i : Int) + 1 ≤ (r.size : Int)) = True from eq_true (by omega))
        have HW3 := Aside0.mk (show ((i : Int) + 1).toNat = i + 1 by omega)
        simp only [List.zipIdx_cons, List.zipIdx_nil, Nat.zero_add, Nat.reduceAdd, List.take_succ_cons, List.take_zero, List.drop_succ_cons, List.drop_zero]
        iterate 9 (refine grow_read ?_ rfl (fun w' hr _ => ?_) ?_; rotate_left 1; (subst hr; have hww := HWW.out; have hw1 := HW1.out; have hw2 := HW2.out; have hw3 := HW3.out; unfold Runs; go_simp; rfl); try simp only [Act.put, List.setIfInBounds_toArray, List.set_cons_zero, List.set_cons_succ])
        refine grow_end (fun w2 hr hf => ?_)
        clear hf
        subst hr
        have b3 := b2.set (.string (r.extract (i + 1) r.size))
        have hJ3 := hB pre w2 _ (.string (r.extract (i + 1) r.size)) hJ1 b2
        have hlen2 : ∃ suf, linesOf s = (pre ++ [r.extract 0 (i + 1)]) ++ suf := ⟨linesOf (r.extract (i + 1) r.size), by rw [HPR.out, HM.out]; simp⟩
        obtain ⟨fn, tmps, assign, body, hy, hR⟩ := hY pre (r.extract 0 (i + 1)) (w2.setCell ⟨Bs, 0, none⟩ (.string (r.extract (i + 1) r.size))) hJ3 hlen2
        clear hJ1 b2
        go_wp2_with fail
        clear c1 f1
        generalize w2.setCell ⟨Bs, 0, none⟩ (.string (r.extract (i + 1) r.size)) = w3 at b3 hJ3 hy hR ⊢
        gi_wp2
        refine hR.mono ?_
        rintro e W4 (⟨rfl, hJ4, hk4⟩ | ⟨rfl, hJx4⟩)
        · have b4 := hk4 _ b3
          gi_wp2
          go_roundw
          case rel => exact ⟨pre ++ [r.extract 0 (i + 1)], r.extract (i + 1) r.size, by rw [HPR.out, HM.out]; simp, by rw [ByteArray.size_extract]; omega, hJ4, b4⟩
          case measure => rw [left_eq b4, HLF.out, ByteArray.size_extract]; omega
        · gi_wp2
          refine bodyPost_ret (results_none rfl _ _ _) rfl ?_
          exact ⟨⟨_, rfl⟩, .inr ⟨_, ⟨linesOf (r.extract (i + 1) r.size), by rw [HPR.out, HM.out]; simp⟩, hJx4⟩⟩
      · have hlast := lines_last r hr0 hi
        have hic := index_calls r wr
        obtain ⟨i, hix⟩ : ∃ i, i = Lib.indexByte r.data.toList 10 := ⟨_, rfl⟩
        rw [← hix] at hic hi
        have HM := Aside0.mk hlast
        have HIC := Aside0.mk hic
        have HPR := Aside0.mk hpr
        have hlf : left wr Bs = r.size := left_eq b1
        have HLF := Aside0.mk hlf
        clear hlast hic hix hpr hlf
        have hin : ¬ (0 ≤ i) := hi
        have hJ1 : ∀ nd, J pre (wr.drewN nd) := fun nd => hJ _ wr _ none hJs ⟨rfl, rfl, rfl, Nat.le_refl _, fun _ _ _ => rfl⟩ (fun r e => by cases e)
        have hb2 : ∀ nd, Boxed (wr.drewN nd) Bs 9 (.string r) := fun nd => b1
        have HJ1 := Aside0.mk hJ1
        have HB2 := Aside0.mk hb2
        clear hJ1 hb2 hJs
        gi_wp2_with (refine ⟨trivial, ?_⟩; gi_at_call 51; refine (callsIn_wide.2 HIC.out).mono ?_; rintro e w' ⟨rfl, nd, rfl⟩)
        have b3 := (HB2.out nd).set (.string ⟨#[]⟩)
        have hJ3 := hB pre (wr.drewN nd) _ (.string ⟨#[]⟩) (HJ1.out nd) (HB2.out nd)
        have hlen2 : ∃ suf, linesOf s = (pre ++ [r]) ++ suf := ⟨[], by rw [HPR.out, HM.out, List.append_nil]⟩
        obtain ⟨fn, tmps, assign, body, hy, hR⟩ := hY pre r ((wr.drewN nd).setCell ⟨Bs, 0, none⟩ (.string ⟨#[]⟩)) hJ3 hlen2
        clear b1 c1 f1
        generalize (wr.drewN nd).setCell ⟨Bs, 0, none⟩ (.string ⟨#[]⟩) = w3 at b3 hJ3 hy hR ⊢
        rw [hy]
        gi_wp2
        refine hR.mono ?_
        rintro e W4 (⟨rfl, hJ4, hk4⟩ | ⟨rfl, hJx4⟩)
        · have b4 := hk4 _ b3
          gi_wp2
          go_roundw
          case rel => exact ⟨pre ++ [r], ⟨#[]⟩, by rw [HPR.out, HM.out, lines_none ⟨#[]⟩ rfl, List.append_nil], by decide, hJ4, b4⟩
          case measure => rw [left_eq b4, HLF.out]; exact hr0
        · gi_wp2
          refine bodyPost_ret (results_none rfl _ _ _) rfl ?_
          exact ⟨⟨_, rfl⟩, .inr ⟨_, ⟨[], by rw [HPR.out, HM.out, List.append_nil]⟩, hJx4⟩⟩
    · have hri : ¬ (0 : Int) < (r.size : Int) := by omega
      have hz := lines_none r (by omega)
      have HPR := Aside0.mk (show pre = linesOf s by rw [hpr, hz, List.append_nil])
      clear hpr hz
      gi_wp2
      go_end0
      exact ⟨⟨_, rfl⟩, .inl (HPR.out ▸ hJs)⟩
set_option maxHeartbeats 1000000 in
/-- strings.Lines boxes its argument; the function value holds the box. -/
theorem lines_calls (n : Nat) (s : ByteArray) (w : World) :
    CallsIn Fence.wide n Tryd.prog 36 #[.string s] w fun e w' => e = .returned (.func (.func 50) #[] #[.pointer (some ⟨w.heap.size, 0, none⟩)]) ∧ w' = w.alloc (.cells #[.string s] 9) := by
  refine callsIn_of_wp Tryd.func36 rfl trivial ?_ rfl
  simp only [Tryd.ntmps36, List.size_toArray, List.length_cons, List.length_nil, Nat.reduceAdd, Nat.reduceSub, Array.replicate_succ, Array.replicate_zero, List.push_toArray, List.append_toArray, List.nil_append, List.cons_append]
  gi_wp2
  go_ret
  exact ⟨rfl, rfl⟩
theorem lines_box (n : Nat) (hn : 1 ≤ n) (Bs : Nat) (s : ByteArray) (hlen : s.size ≤ 4611686018427387904) (w : World) (hBs : Boxed w Bs 9 (.string s)) :
    SeqBox Fence.wide n Tryd.prog 50 #[.pointer (some ⟨Bs, 0, none⟩)] (fun x : ByteArray => #[.string x]) (KpL Bs) (fun ys => ys = linesOf s) (fun pre => ∃ suf, linesOf s = pre ++ suf) (fun pre => ∃ suf, linesOf s = pre ++ suf) w Bs 9 :=
  fun l J Jx W hW hJ _ hB _ hY h0 => lines1 n hn l Bs s hlen J Jx W hJ hB hY (blk_below hBs hW) h0
end Go.Proofs.YtiobdnnijbfdhaaDoor.PT
