-- printed by wip/printx (a program of this session's, over the kit's print)
import Derived.Test.YtjjhopcbipedaaaDoorPXx0
import Derived.Test.YtjjhopcbipedaaaDoorPXx2
import Derived.Test.YtjjhopcbipedaaaDoorPXx3
namespace Go.Proofs.YtjjhopcbipedaaaDoor.PX
open Go.RowKit Go.Proofs.YtjjhopcbipedaaaDoorW.PrintWords Go.Proofs.YtjjhopcbipedaaaDoorW.PrintLast Go.Proofs.YtjjhopcbipedaaaDoorW.PrintMore
attribute [local go_sem] max2_int min2_int max_two min_two max_three min_three max_four min_four Go.Proofs.YtjjhopcbipedaaaDoor.PxMore.isSome_setCell   -- for this text's walks alone
set_option linter.unusedVariables false
set_option linter.unusedSimpArgs false

/-! ### lexer_word: function 22 -/
open Lex (wordL nameL partL runL digL idxL signL isSmall isGreat isDig colons nameGo)
/-- What the class of a byte tells. -/
theorem cls_tells : ∀ n : Fin 256, (decide (cls (n.val : Int) = 3) = isSmall (UInt8.ofNat n.val)) ∧ (decide (cls (n.val : Int) = 4) = isGreat (UInt8.ofNat n.val)) ∧ (decide (cls (n.val : Int) = 5) = isDig (UInt8.ofNat n.val)) ∧ (decide (cls (n.val : Int) = 6) = (UInt8.ofNat n.val == 39 || UInt8.ofNat n.val == 34)) ∧
    (decide (cls (n.val : Int) = 1) = Lex.isBlank (UInt8.ofNat n.val)) ∧ (decide (cls (n.val : Int) = 2) = (UInt8.ofNat n.val == 35)) := by decide +kernel
theorem cls_byte (b : UInt8) : (decide (cls (b.toNat : Int) = 3) = isSmall b) ∧ (decide (cls (b.toNat : Int) = 4) = isGreat b) ∧ (decide (cls (b.toNat : Int) = 5) = isDig b) ∧ (decide (cls (b.toNat : Int) = 6) = (b == 39 || b == 34)) ∧ (decide (cls (b.toNat : Int) = 1) = Lex.isBlank b) ∧ (decide (cls (b.toNat : Int) = 2) = (b == 35)) := by
  have h := cls_tells ⟨b.toNat, b.toNat_lt⟩
  simpa using h
theorem ev_class (b : UInt8) : Ev (fun k => lexer_class.f k (b.toNat : Int)) (cls (b.toNat : Int)) := Ev.of (lexer_class.mono (b.toNat : Int)) (class_is _ (by omega) (by have := b.toNat_lt; omega))
theorem bt_head {s : ByteArray} {b : UInt8} {r : List UInt8} (h : s.data.toList = b :: r) : bt s 0 = (b.toNat : Int) := by
  obtain ⟨⟨l⟩⟩ := s
  simp only at h
  subst h
  rfl
theorem size_list (s : ByteArray) : s.size = s.data.toList.length := (data_length s).symm
theorem nil_iff (s : ByteArray) : s.toList = ([] : List UInt8) ↔ s.data.toList = [] := by rw [ByteArray.toList_eq]
theorem ev_part (s : ByteArray) : Ev (fun k => lexer_part.f k s) (partL s.data.toList : Int) := by
  unfold lexer_part.f
  cases hs : s.data.toList with
  | nil => exact Ev.congr (f := fun _ => some 0) (fun k => by rw [if_pos ((nil_iff s).2 hs)]) (Ev.now _)
  | cons b r =>
    have hz : 0 < (s.size : Int) := by rw [size_list, hs]; simp
    refine Ev.congr (f := fun k => (lexer_class.f k (b.toNat : Int)).bind fun t => if t = 3 then some (runLen s : Int) else some 0) (fun k => ?_) ?_
    · rw [if_neg (by rw [nil_iff, hs]; simp), if_pos hz, bt_head hs]
      rfl
    · refine Ev.bind (ev_class b) ?_
      have hc := (cls_byte b).1
      rw [Lex.partL_cons]
      cases hb : isSmall b with
      | true => rw [hb] at hc; simp only [of_decide_eq_true hc, if_true]; unfold runLen; rw [hs]; exact Ev.now _
      | false => rw [hb] at hc; simp only [of_decide_eq_false hc, if_false, Bool.false_eq_true]; exact Ev.now _
theorem hasPrefix_is (s x : ByteArray) : strings_HasPrefix.f s x = some (x.data.toList.isPrefixOf s.data.toList) := by
  unfold strings_HasPrefix.f stringslite_HasPrefix.f
  have e : (x.data.toList.isPrefixOf s.data.toList) = (decide (x.data.toList.length ≤ s.data.toList.length) && (s.data.toList.take x.data.toList.length == x.data.toList)) := by
    rw [Bool.eq_iff_iff, List.isPrefixOf_iff_prefix, List.prefix_iff_eq_take]
    simp only [Bool.and_eq_true, decide_eq_true_eq, beq_iff_eq]
    constructor
    · intro h
      exact ⟨by have := congrArg List.length h; rw [List.length_take] at this; omega, h.symm⟩
    · intro h
      exact h.2.symm
  by_cases h : (s.size : Int) ≥ (x.size : Int)
  · rw [if_pos h, if_pos (by omega), if_pos h]
    simp only [Option.bind_some, ByteArray.toList_eq]
    rw [e, decide_eq_true (by rw [← size_list, ← size_list]; omega), Bool.true_and]
    rw [Lib.extract_from_zero, Int.toNat_natCast, ← size_list]
  · rw [if_neg h, Option.bind_some, e, decide_eq_false (by rw [← size_list, ← size_list]; omega)]
    rfl
theorem colons_prefix (l : List UInt8) : ([58, 58] : List UInt8).isPrefixOf l = colons l := by
  match l with
  | [] => rfl
  | [a] => simp [colons, List.isPrefixOf]
  | a :: b :: r =>
    by_cases h : a = 58
    · by_cases h2 : b = 58
      · subst h h2; simp [colons]
      · subst h
        have h3 : (58 == b) = false := beq_eq_false_iff_ne.2 (fun e => h2 e.symm)
        simp only [List.isPrefixOf, h3, BEq.rfl, Bool.true_and, Bool.false_and]
        unfold colons
        split
        · rename_i he
          simp only [List.cons.injEq] at he
          exact absurd he.2.1 h2
        · rfl
    · have h3 : (58 == a) = false := beq_eq_false_iff_ne.2 (fun e => h e.symm)
      simp only [List.isPrefixOf, h3, Bool.false_and]
      unfold colons
      split
      · rename_i he
        simp only [List.cons.injEq] at he
        exact absurd he.1 h
      · rfl
theorem w64 (a b : Int) (h : a = b) (h0 : 0 ≤ b) (h1 : b ≤ 9223372036854775807) : wrap64 a = b := by
  subst h
  unfold wrap64
  omega
theorem ev_name_stop (s : ByteArray) (n : Int) : Ev (fun k => lexer_name.j1 k s n false) n := by
  refine Ev.step (f := fun _ => some n) (fun k => ?_) (Ev.now _)
  simp only [lexer_name.j1]
  rw [if_neg (by decide)]
theorem ev_nameGo (s : ByteArray) (hz : s.size ≤ 4611686018427387904) : ∀ (f n : Nat), n ≤ s.size → s.size ≤ f + n → Ev (fun k => lexer_name.l0 k s (n : Int)) (nameGo f s.data.toList n : Int) := by
  have hp : ∀ n : Nat, strings_HasPrefix.f (s.extract ((n : Int).toNat) s.size) (⟨#[58, 58]⟩ : ByteArray) = some (colons (s.data.toList.drop n)) := by
    intro n
    rw [hasPrefix_is, Int.toNat_natCast, Lib.extract_to_end, ← colons_prefix]
  have hl := size_list s
  intro f
  induction f with
  | zero =>
    intro n h1 h2
    obtain rfl : n = s.size := by omega
    have hc : colons (s.data.toList.drop s.size) = false := by rw [hl, List.drop_length]; rfl
    refine Ev.step (f := fun k => lexer_name.j1 k s (s.size : Int) false) (fun k => ?_) (ev_name_stop _ _)
    simp only [lexer_name.l0]
    by_cases h0 : (s.size : Int) > 0
    · rw [if_pos h0, if_pos (by omega), if_pos (by omega), hp, hc, Option.bind_some]
    · rw [if_neg h0]
  | succ f ih =>
    intro n h1 h2
    have hn : nameGo (f + 1) s.data.toList n = if 0 < n ∧ colons (s.data.toList.drop n) = true then (if partL (s.data.toList.drop (n + 2)) = 0 then n else nameGo f s.data.toList (n + 2 + partL (s.data.toList.drop (n + 2)))) else n := rfl
    rw [hn]
    by_cases hc : 0 < n ∧ colons (s.data.toList.drop n) = true
    · rw [if_pos hc]
      obtain ⟨h0, hc⟩ := hc
      have hn2 : n + 2 ≤ s.size := by
        match hd : s.data.toList.drop n, hc with
        | [a], h => simp [colons] at h
        | a :: b :: r, _ =>
          have := congrArg List.length hd
          simp only [List.length_drop, List.length_cons] at this
          omega
      have hw : wrap64 ((n : Int) + 2) = ((n + 2 : Nat) : Int) := w64 _ _ (by omega) (by omega) (by omega)
      have hm := Lex.partL_le (s.data.toList.drop (n + 2))
      simp only [List.length_drop] at hm
      refine Ev.step (f := fun k => lexer_name.j1 k s (n : Int) true) (fun k => ?_) ?_
      · simp only [lexer_name.l0]
        rw [if_pos (by omega), if_pos (by omega), if_pos (by omega), hp, hc, Option.bind_some]
      refine Ev.step (f := fun k => (lexer_part.f k (s.extract (n + 2) s.size)).bind fun t => if t = 0 then some (n : Int) else lexer_name.l0 k s (wrap64 ((n : Int) + wrap64 (2 + t)))) (fun k => ?_) ?_
      · simp only [lexer_name.j1]
        rw [if_pos trivial, hw, if_pos (by omega), if_pos (by omega), Int.toNat_natCast]
      refine Ev.bind (ev_part _) ?_
      rw [Lib.extract_to_end]
      by_cases hm0 : partL (s.data.toList.drop (n + 2)) = 0
      · rw [if_pos hm0]
        refine Ev.congr (f := fun _ => some (n : Int)) (fun k => ?_) (Ev.now _)
        rw [if_pos (by omega)]
      · rw [if_neg hm0]
        have hw2 : wrap64 ((n : Int) + wrap64 (2 + (partL (s.data.toList.drop (n + 2)) : Int))) = ((n + 2 + partL (s.data.toList.drop (n + 2)) : Nat) : Int) := by
          rw [w64 (2 + (partL (s.data.toList.drop (n + 2)) : Int)) ((2 + partL (s.data.toList.drop (n + 2)) : Nat) : Int) (by omega) (by omega) (by omega)]
          exact w64 _ _ (by omega) (by omega) (by omega)
        refine Ev.congr (f := fun k => lexer_name.l0 k s ((n + 2 + partL (s.data.toList.drop (n + 2)) : Nat) : Int)) (fun k => ?_) (ih _ (by omega) (by omega))
        rw [if_neg (by omega), hw2]
    · rw [if_neg hc]
      refine Ev.step (f := fun k => lexer_name.j1 k s (n : Int) false) (fun k => ?_) (ev_name_stop _ _)
      simp only [lexer_name.l0]
      by_cases h0 : (n : Int) > 0
      · have hc' : colons (s.data.toList.drop n) = false := by
          cases h : colons (s.data.toList.drop n) with
          | false => rfl
          | true => exact absurd ⟨by omega, h⟩ hc
        rw [if_pos h0, if_pos (by omega), if_pos (by omega), hp, hc', Option.bind_some]
      · rw [if_neg h0]
theorem ev_name (s : ByteArray) (hz : s.size ≤ 4611686018427387904) : Ev (fun k => lexer_name.f k s) (nameL s.data.toList : Int) := by
  unfold lexer_name.f
  refine Ev.bind (ev_part s) ?_
  unfold nameL
  exact ev_nameGo s hz _ _ (by rw [size_list]; exact Lex.partL_le _) (by rw [size_list]; omega)

/-- The signs, as the program's variable has them. -/
def signB : List ByteArray := Lex.signs.map fun l => ⟨l.toArray⟩
def signCells : Array Value := (signB.map Value.string).toArray
/-- The package variable is as it is laid. -/
def Amb (w : World) : Prop := ∃ t fr, w.heap[0]? = some (.cells signCells t fr)
theorem Amb.below {w w' : World} (h : Amb w) (hb : Below w.heap.size w w') : Amb w' := by
  obtain ⟨t, fr, h⟩ := h
  exact ⟨t, fr, blk_below h hb⟩
theorem Amb.drawn {w w' : World} (h : Amb w) (hd : Drawn0 w w') : Amb w' := h.below hd.below
def WordPost (w : World) (k : Int) (t : ByteArray) (n : Int) (e : Ending) (w' : World) : Prop := e = .returned (.tuple #[.agg #[.int .i64 k, .string t, .int .i64 0], .int .i64 n]) ∧ Below w.heap.size w w'
def lexer_word.f (a0 : ByteArray) : Option (Int × ByteArray × Int × Int) :=
  if a0.data.toList = [] ∨ 4611686018427387904 < a0.size then none else some (match wordL a0.data.toList with
    | none => (0, ⟨#[]⟩, 0, 0)
    | some (k, lo, hi, n) => ((k : Int), a0.extract lo hi, 0, (n : Int)))
/-- The end of each way: the answer is stored. -/
theorem word_end {w w9 : World} {g : Nat} (BK : w9.heap[g]? = some (.cells #[.int .i64 0, .string ⟨#[]⟩, .int .i64 0] 29 (0, 0))) (HB : Below w.heap.size w w9) (hg : w.heap.size ≤ g) (k n : Int) (t : ByteArray) (a : Act) (h0 : a.defers = [])
    (h1 : a.tmps.getD 2 undef = .pointer (some ⟨g, 0, none⟩)) (h2 : a.tmps.getD 3 undef = .int .i64 n) :
    bodyPost Tryd.prog Tryd.f22 (WordPost w k t n) .ret a (((w9.setCell ⟨g, 0, none⟩ (.int .i64 k)).setCell ⟨g, 1, none⟩ (.string t)).setCell ⟨g, 2, none⟩ (.int .i64 0)) := by
  refine bodyPost_ret (v := .tuple #[.agg #[.int .i64 k, .string t, .int .i64 0], .int .i64 n]) ?_ h0 ⟨rfl, below_set (below_set (below_set HB hg) hg) hg⟩
  rw [← h2]
  exact results_ct rfl _ _ g 29 #[.int .i64 k, .string t, .int .i64 0] (0, 0) _ h1 (blk_put (blk_put (blk_put BK 0 (.int .i64 k) rfl) 1 (.string t) rfl) 2 (.int .i64 0) rfl) Tryd.underlying29 rfl (by kernel_rfl)
set_option maxHeartbeats 4000000 in
set_option maxRecDepth 100000 in
theorem word_small (a0 : ByteArray) (b : UInt8) (l : List UInt8) (hl : a0.data.toList = b :: l) (hz : a0.size ≤ 4611686018427387904) (hb : isSmall b = true) (w : World) :
    Calls Tryd.prog 22 #[.string a0] w (WordPost w 1 (a0.extract 0 (nameL (b :: l))) (nameL (b :: l))) := by
  have huW := Tryd.underlying29
  obtain ⟨k, hk⟩ := Ev.rounds (ev_name a0 hz)
  rw [hl] at hk
  have HN := Aside0.mk hk
  have hc := (cls_byte b).1
  rw [hb] at hc
  have hc3 := of_decide_eq_true hc
  have hcl := class_is (bt a0 0) (bt_range a0 0).1 (bt_range a0 0).2
  rw [bt_head hl, hc3, ← bt_head hl] at hcl
  have CL := Aside0.mk hcl
  have q4 : 0 < a0.size := by rw [size_list, hl]; simp
  have hx4 : ∀ h : 0 < a0.size, ((a0[0]'h).toNat : Int) = bt a0 0 := bt_at a0 0
  have hn := Lex.nameL_le (b :: l)
  rw [← hl, ← size_list, hl] at hn
  obtain ⟨m, hm⟩ : ∃ m, m = nameL (b :: l) := ⟨_, rfl⟩
  rw [← hm] at hn HN ⊢
  have qi4 : (0 < (a0.size : Int)) = True := eq_true (by omega)
  replace q4 := eq_true q4
  have hlo : ((m : Int) ≤ (a0.size : Int)) = True := eq_true (by omega)
  have hlo2 : decide ((m : Int) ≤ (a0.size : Int)) = true := decide_eq_true (by omega)
  have HW := Aside0.mk (Below.refl w.heap.size w)
  clear hk hc hc3 hcl hl hb hm hz
  go_enter Tryd.func22, Tryd.ntmps22
  go_wp2_with (first | (go_at_call 20; (with_reducible refine (lexer_class.calls 10 (bt a0 0) 3 _ CL.out).mono ?_); rintro e w' ⟨rfl, ⟨nd, rfl⟩⟩) | (go_at_call 25; (with_reducible refine (lexer_name.calls k a0 (m : Int) _ HN.out).mono ?_); rintro e w9 ⟨rfl, hb9⟩; have HB := Aside0.mk (below_step (pw_below_drewN (below_alloc HW.out _) nd) hb9); have BK := Aside0.mk (blk_below (blk_drewN (blk_new w (.cells #[.int .i64 0, .string ⟨#[]⟩, .int .i64 0] 29)) nd) hb9); clear hb9; have z0 : w9.cell? ⟨w.heap.size, 0, none⟩ = some (.int .i64 0) := (blk_cell BK.out 0).trans rfl; have z1 : w9.cell? ⟨w.heap.size, 1, none⟩ = some (.string ⟨#[]⟩) := (blk_cell BK.out 1).trans rfl; have z2 : w9.cell? ⟨w.heap.size, 2, none⟩ = some (.int .i64 0) := (blk_cell BK.out 2).trans rfl; have f0 := blk_frozen BK.out 0; have f1 := blk_frozen BK.out 1; have f2 := blk_frozen BK.out 2))
  exact word_end BK.out HB.out (Nat.le_refl _) _ _ _ _ rfl rfl rfl
set_option maxHeartbeats 4000000 in
set_option maxRecDepth 100000 in
theorem word_great (a0 : ByteArray) (b : UInt8) (l : List UInt8) (hl : a0.data.toList = b :: l) (hz : a0.size ≤ 4611686018427387904) (hb : isGreat b = true) (w : World) :
    Calls Tryd.prog 22 #[.string a0] w (WordPost w 2 (a0.extract 0 (1 + runL l)) (1 + (runL l : Int))) := by
  have huW := Tryd.underlying29
  have hc : cls (b.toNat : Int) = 4 := of_decide_eq_true ((cls_byte b).2.1.trans hb)
  have hcl := class_is (bt a0 0) (bt_range a0 0).1 (bt_range a0 0).2
  rw [bt_head hl, hc, ← bt_head hl] at hcl
  have CL := Aside0.mk hcl
  have hsz : a0.size = l.length + 1 := by rw [size_list, hl]; rfl
  have q4 : 0 < a0.size := by omega
  have hx4 : ∀ h : 0 < a0.size, ((a0[0]'h).toNat : Int) = bt a0 0 := bt_at a0 0
  have h1e : (a0.extract 1 a0.size).data.toList = l := by rw [Lib.extract_to_end, hl]; rfl
  have qi4 : (0 < (a0.size : Int)) = True := eq_true (by omega)
  replace q4 := eq_true q4
  have o1 : (1 ≤ (a0.size : Int)) = True := eq_true (by omega)
  have o1b : decide (1 ≤ (a0.size : Int)) = true := decide_eq_true (by omega)
  have HW := Aside0.mk (Below.refl w.heap.size w)
  clear hc hcl
  have hr : lexer_run.f (a0.extract 1 a0.size) = some (runL l : Int) := by unfold lexer_run.f runLen; rw [h1e]
  have HR := Aside0.mk hr
  have hn := Lex.runL_le l
  obtain ⟨m, hm⟩ : ∃ m, m = runL l := ⟨_, rfl⟩
  rw [← hm] at hn HR ⊢
  have hn1 : 1 + m ≤ a0.size := by omega
  clear hr hm h1e hl hb hsz hn
  go_enter Tryd.func22, Tryd.ntmps22
  go_wp2_with (first | (go_at_call 20; (with_reducible refine (lexer_class.calls 10 (bt a0 0) _ _ CL.out).mono ?_); rintro e w' ⟨rfl, ⟨nd, rfl⟩⟩) | (go_at_call 27; (with_reducible refine (lexer_run.calls (a0.extract 1 a0.size) (m : Int) _ HR.out).mono ?_); rintro e w9 ⟨rfl, hb9⟩; have HB := Aside0.mk (below_step (pw_below_drewN (below_alloc HW.out _) nd) hb9); have BK := Aside0.mk (blk_below (blk_drewN (blk_new w (.cells #[.int .i64 0, .string ⟨#[]⟩, .int .i64 0] 29)) nd) hb9); clear hb9; have z0 : w9.cell? ⟨w.heap.size, 0, none⟩ = some (.int .i64 0) := (blk_cell BK.out 0).trans rfl; have z1 : w9.cell? ⟨w.heap.size, 1, none⟩ = some (.string ⟨#[]⟩) := (blk_cell BK.out 1).trans rfl; have z2 : w9.cell? ⟨w.heap.size, 2, none⟩ = some (.int .i64 0) := (blk_cell BK.out 2).trans rfl; have f0 := blk_frozen BK.out 0; have f1 := blk_frozen BK.out 1; have f2 := blk_frozen BK.out 2))
  exact word_end BK.out HB.out (Nat.le_refl _) _ _ _ _ rfl rfl rfl
set_option maxHeartbeats 4000000 in
set_option maxRecDepth 100000 in
theorem word_quote (a0 : ByteArray) (b : UInt8) (l : List UInt8) (hl : a0.data.toList = b :: l) (hz : a0.size ≤ 4611686018427387904) (hb : b = 39 ∨ b = 34) (i : Nat) (hi : idxL l b = some i) (w : World) :
    Calls Tryd.prog 22 #[.string a0] w (WordPost w (if b = 34 then 5 else 4) (a0.extract 1 (1 + i)) ((i : Int) + 2)) := by
  have huW := Tryd.underlying29
  have hc : cls (b.toNat : Int) = 6 := of_decide_eq_true ((cls_byte b).2.2.2.1.trans (by rcases hb with h | h <;> simp [h]))
  have hcl := class_is (bt a0 0) (bt_range a0 0).1 (bt_range a0 0).2
  rw [bt_head hl, hc, ← bt_head hl] at hcl
  have CL := Aside0.mk hcl
  have hsz : a0.size = l.length + 1 := by rw [size_list, hl]; rfl
  have q4 : 0 < a0.size := by omega
  have hx4 : ∀ h : 0 < a0.size, ((a0[0]'h).toNat : Int) = bt a0 0 := bt_at a0 0
  have h1e : (a0.extract 1 a0.size).data.toList = l := by rw [Lib.extract_to_end, hl]; rfl
  have qi4 : (0 < (a0.size : Int)) = True := eq_true (by omega)
  replace q4 := eq_true q4
  have o1 : (1 ≤ (a0.size : Int)) = True := eq_true (by omega)
  have o1b : decide (1 ≤ (a0.size : Int)) = true := decide_eq_true (by omega)
  have HW := Aside0.mk (Below.refl w.heap.size w)
  clear hc hcl
  have hr : strings_IndexByte.f (a0.extract 1 a0.size) (bt a0 0) = some (match idxL l b with | none => -1 | some i => (i : Int)) := by
    unfold strings_IndexByte.f stringslite_IndexByte.f
    rw [h1e, bt_head hl]
    simp only [Option.bind_some]
    rw [show ((b.toNat : Int).toNat.toUInt8) = b from by simp, Lex.indexByte_idx]
    cases idxL l b <;> rfl
  rw [hi] at hr
  simp only at hr
  have HR := Aside0.mk hr
  have hn := Lex.idxL_lt hi
  have hn1 : i + 2 ≤ a0.size := by omega
  have hbt := bt_head hl
  have e34 : (bt a0 0 == 34) = decide (b = 34) := by
    rw [hbt]
    rcases hb with h | h <;> subst h <;> rfl
  have hsl : ∀ W, (Instr.slice 9 (.string a0) (some (.int .i64 1)) (some (.int .i64 (1 + (i : Int)))) none).run Tryd.prog W = .ok (.string (a0.extract 1 (1 + i))) W := fun W => by
    rw [run_slice_string W 9 a0 .i64 .i64 1 (1 + (i : Int)) Tryd.underlying9 (by omega) (by omega) (by omega)]
    have e : (1 + (i : Int)).toNat = 1 + i := by omega
    rw [e]
    rfl
  clear hr h1e hsz hn hi hbt hl
  rcases hb with hb | hb
  · have h34 : (bt a0 0 == 34) = false := by rw [e34, hb]; rfl
    rw [if_neg (by rw [hb]; decide)]
    clear hb e34
    go_enter Tryd.func22, Tryd.ntmps22
    go_wp2_with (first | (go_at_call 20; (with_reducible refine (lexer_class.calls 10 (bt a0 0) _ _ CL.out).mono ?_); rintro e w' ⟨rfl, ⟨nd, rfl⟩⟩))
    have HB := Aside0.mk (pw_below_drewN (below_alloc HW.out (.cells #[.int .i64 0, .string ⟨#[]⟩, .int .i64 0] 29)) nd)
    have BK := Aside0.mk (blk_drewN (blk_new w (.cells #[.int .i64 0, .string ⟨#[]⟩, .int .i64 0] 29)) nd)
    generalize (w.alloc (.cells #[.int .i64 0, .string ⟨#[]⟩, .int .i64 0] 29)).drewN nd = w4 at *
    have z0 : w4.cell? ⟨w.heap.size, 0, none⟩ = some (.int .i64 0) := (blk_cell BK.out 0).trans rfl
    have z1 : w4.cell? ⟨w.heap.size, 1, none⟩ = some (.string ⟨#[]⟩) := (blk_cell BK.out 1).trans rfl
    have z2 : w4.cell? ⟨w.heap.size, 2, none⟩ = some (.int .i64 0) := (blk_cell BK.out 2).trans rfl
    have f0 := blk_frozen BK.out 0
    have f1 := blk_frozen BK.out 1
    have f2 := blk_frozen BK.out 2
    go_quiet ((go_at_call 21; exact Calls.quiet_of ((strings_IndexByte.calls _ _ _ _ HR.out).mono fun _ _ ⟨he, hm⟩ => ⟨he, hm.out⟩)))
    go_wp2_with fail
    exact word_end (blk_drewN BK.out _) (pw_below_drewN HB.out _) (Nat.le_refl _) _ _ _ _ rfl rfl rfl
  · have h34 : (bt a0 0 == 34) = true := by rw [e34, hb]; rfl
    rw [if_pos hb]
    clear hb e34
    go_enter Tryd.func22, Tryd.ntmps22
    go_wp2_with (first | (go_at_call 20; (with_reducible refine (lexer_class.calls 10 (bt a0 0) _ _ CL.out).mono ?_); rintro e w' ⟨rfl, ⟨nd, rfl⟩⟩))
    have HB := Aside0.mk (pw_below_drewN (below_alloc HW.out (.cells #[.int .i64 0, .string ⟨#[]⟩, .int .i64 0] 29)) nd)
    have BK := Aside0.mk (blk_drewN (blk_new w (.cells #[.int .i64 0, .string ⟨#[]⟩, .int .i64 0] 29)) nd)
    generalize (w.alloc (.cells #[.int .i64 0, .string ⟨#[]⟩, .int .i64 0] 29)).drewN nd = w4 at *
    have z0 : w4.cell? ⟨w.heap.size, 0, none⟩ = some (.int .i64 0) := (blk_cell BK.out 0).trans rfl
    have z1 : w4.cell? ⟨w.heap.size, 1, none⟩ = some (.string ⟨#[]⟩) := (blk_cell BK.out 1).trans rfl
    have z2 : w4.cell? ⟨w.heap.size, 2, none⟩ = some (.int .i64 0) := (blk_cell BK.out 2).trans rfl
    have f0 := blk_frozen BK.out 0
    have f1 := blk_frozen BK.out 1
    have f2 := blk_frozen BK.out 2
    go_quiet ((go_at_call 21; exact Calls.quiet_of ((strings_IndexByte.calls _ _ _ _ HR.out).mono fun _ _ ⟨he, hm⟩ => ⟨he, hm.out⟩)))
    go_wp2_with fail
    exact word_end (blk_drewN BK.out _) (pw_below_drewN HB.out _) (Nat.le_refl _) _ _ _ _ rfl rfl rfl
set_option maxHeartbeats 4000000 in
set_option maxRecDepth 100000 in
theorem word_open (a0 : ByteArray) (b : UInt8) (l : List UInt8) (hl : a0.data.toList = b :: l) (hz : a0.size ≤ 4611686018427387904) (hb : b = 39 ∨ b = 34) (hi : idxL l b = none) (w : World) :
    Calls Tryd.prog 22 #[.string a0] w (WordPost w 0 ⟨#[]⟩ 0) := by
  have huW := Tryd.underlying29
  have hc : cls (b.toNat : Int) = 6 := of_decide_eq_true ((cls_byte b).2.2.2.1.trans (by rcases hb with h | h <;> simp [h]))
  have hcl := class_is (bt a0 0) (bt_range a0 0).1 (bt_range a0 0).2
  rw [bt_head hl, hc, ← bt_head hl] at hcl
  have CL := Aside0.mk hcl
  have hsz : a0.size = l.length + 1 := by rw [size_list, hl]; rfl
  have q4 : 0 < a0.size := by omega
  have hx4 : ∀ h : 0 < a0.size, ((a0[0]'h).toNat : Int) = bt a0 0 := bt_at a0 0
  have h1e : (a0.extract 1 a0.size).data.toList = l := by rw [Lib.extract_to_end, hl]; rfl
  have qi4 : (0 < (a0.size : Int)) = True := eq_true (by omega)
  replace q4 := eq_true q4
  have o1 : (1 ≤ (a0.size : Int)) = True := eq_true (by omega)
  have o1b : decide (1 ≤ (a0.size : Int)) = true := decide_eq_true (by omega)
  have HW := Aside0.mk (Below.refl w.heap.size w)
  clear hc hcl
  have hr : strings_IndexByte.f (a0.extract 1 a0.size) (bt a0 0) = some (match idxL l b with | none => -1 | some i => (i : Int)) := by
    unfold strings_IndexByte.f stringslite_IndexByte.f
    rw [h1e, bt_head hl]
    simp only [Option.bind_some]
    rw [show ((b.toNat : Int).toNat.toUInt8) = b from by simp, Lex.indexByte_idx]
    cases idxL l b <;> rfl
  rw [hi] at hr
  simp only at hr
  have HR := Aside0.mk hr
  clear hr h1e hsz hi hl hb
  go_enter Tryd.func22, Tryd.ntmps22
  go_wp2_with (first | (go_at_call 20; (with_reducible refine (lexer_class.calls 10 (bt a0 0) _ _ CL.out).mono ?_); rintro e w' ⟨rfl, ⟨nd, rfl⟩⟩))
  have HB := Aside0.mk (pw_below_drewN (below_alloc HW.out (.cells #[.int .i64 0, .string ⟨#[]⟩, .int .i64 0] 29)) nd)
  have BK := Aside0.mk (blk_drewN (blk_new w (.cells #[.int .i64 0, .string ⟨#[]⟩, .int .i64 0] 29)) nd)
  generalize (w.alloc (.cells #[.int .i64 0, .string ⟨#[]⟩, .int .i64 0] 29)).drewN nd = w4 at *
  have z0 : w4.cell? ⟨w.heap.size, 0, none⟩ = some (.int .i64 0) := (blk_cell BK.out 0).trans rfl
  have z1 : w4.cell? ⟨w.heap.size, 1, none⟩ = some (.string ⟨#[]⟩) := (blk_cell BK.out 1).trans rfl
  have z2 : w4.cell? ⟨w.heap.size, 2, none⟩ = some (.int .i64 0) := (blk_cell BK.out 2).trans rfl
  have f0 := blk_frozen BK.out 0
  have f1 := blk_frozen BK.out 1
  have f2 := blk_frozen BK.out 2
  go_quiet ((go_at_call 21; exact Calls.quiet_of ((strings_IndexByte.calls _ _ _ _ HR.out).mono fun _ _ ⟨he, hm⟩ => ⟨he, hm.out⟩)))
  go_wp2_with fail
  exact word_end (blk_drewN BK.out _) (pw_below_drewN HB.out _) (Nat.le_refl _) _ _ _ _ rfl rfl rfl
set_option maxHeartbeats 4000000 in
set_option maxRecDepth 100000 in
theorem word_dollar (a0 : ByteArray) (b : UInt8) (l : List UInt8) (hl : a0.data.toList = b :: l) (hz : a0.size ≤ 4611686018427387904) (hb : b = 36) (hp : partL l ≠ 0) (w : World) :
    Calls Tryd.prog 22 #[.string a0] w (WordPost w 3 (a0.extract 1 (1 + partL l)) (1 + (partL l : Int))) := by
  have huW := Tryd.underlying29
  have hc : cls (b.toNat : Int) = 7 := by rw [hb]; decide
  have hcl := class_is (bt a0 0) (bt_range a0 0).1 (bt_range a0 0).2
  rw [bt_head hl, hc, ← bt_head hl] at hcl
  have CL := Aside0.mk hcl
  have hsz : a0.size = l.length + 1 := by rw [size_list, hl]; rfl
  have q4 : 0 < a0.size := by omega
  have hx4 : ∀ h : 0 < a0.size, ((a0[0]'h).toNat : Int) = bt a0 0 := bt_at a0 0
  have h1e : (a0.extract 1 a0.size).data.toList = l := by rw [Lib.extract_to_end, hl]; rfl
  have qi4 : (0 < (a0.size : Int)) = True := eq_true (by omega)
  replace q4 := eq_true q4
  have o1 : (1 ≤ (a0.size : Int)) = True := eq_true (by omega)
  have o1b : decide (1 ≤ (a0.size : Int)) = true := decide_eq_true (by omega)
  have HW := Aside0.mk (Below.refl w.heap.size w)
  clear hc hcl
  obtain ⟨k, hk⟩ := Ev.rounds (ev_part (a0.extract 1 a0.size))
  rw [h1e] at hk
  have HN := Aside0.mk hk
  have h36 : (bt a0 0 == 36) = true := by rw [bt_head hl, hb]; rfl
  have hn := Lex.partL_le l
  obtain ⟨m, hm⟩ : ∃ m, m = partL l := ⟨_, rfl⟩
  rw [← hm] at hn HN hp ⊢
  have hn1 : 1 + m ≤ a0.size := by omega
  have hm0 : ((m : Int) == 0) = false := beq_eq_false_iff_ne.2 (by omega)
  have hsl : ∀ W, (Instr.slice 9 (.string a0) (some (.int .i64 1)) (some (.int .i64 (1 + (m : Int)))) none).run Tryd.prog W = .ok (.string (a0.extract 1 (1 + m))) W := fun W => by
    rw [run_slice_string W 9 a0 .i64 .i64 1 (1 + (m : Int)) Tryd.underlying9 (by omega) (by omega) (by omega)]
    have e : (1 + (m : Int)).toNat = 1 + m := by omega
    rw [e]
    rfl
  clear hk hm h1e hl hb hsz hn hp
  go_enter Tryd.func22, Tryd.ntmps22
  go_wp2_with (first | (go_at_call 20; (with_reducible refine (lexer_class.calls 10 (bt a0 0) _ _ CL.out).mono ?_); rintro e w' ⟨rfl, ⟨nd, rfl⟩⟩) | (go_at_call 31; (with_reducible refine (lexer_part.calls k (a0.extract 1 a0.size) _ _ HN.out).mono ?_); rintro e w9 ⟨rfl, hb9⟩; have HB := Aside0.mk (below_step (pw_below_drewN (below_alloc HW.out _) nd) hb9); have BK := Aside0.mk (blk_below (blk_drewN (blk_new w (.cells #[.int .i64 0, .string ⟨#[]⟩, .int .i64 0] 29)) nd) hb9); clear hb9; have z0 : w9.cell? ⟨w.heap.size, 0, none⟩ = some (.int .i64 0) := (blk_cell BK.out 0).trans rfl; have z1 : w9.cell? ⟨w.heap.size, 1, none⟩ = some (.string ⟨#[]⟩) := (blk_cell BK.out 1).trans rfl; have z2 : w9.cell? ⟨w.heap.size, 2, none⟩ = some (.int .i64 0) := (blk_cell BK.out 2).trans rfl; have f0 := blk_frozen BK.out 0; have f1 := blk_frozen BK.out 1; have f2 := blk_frozen BK.out 2))
  exact word_end BK.out HB.out (Nat.le_refl _) _ _ _ _ rfl rfl rfl
set_option maxHeartbeats 4000000 in
set_option maxRecDepth 100000 in
theorem word_dollar0 (a0 : ByteArray) (b : UInt8) (l : List UInt8) (hl : a0.data.toList = b :: l) (hz : a0.size ≤ 4611686018427387904) (hb : b = 36) (hp : partL l = 0) (w : World) :
    Calls Tryd.prog 22 #[.string a0] w (WordPost w 0 ⟨#[]⟩ 0) := by
  have huW := Tryd.underlying29
  have hc : cls (b.toNat : Int) = 7 := by rw [hb]; decide
  have hcl := class_is (bt a0 0) (bt_range a0 0).1 (bt_range a0 0).2
  rw [bt_head hl, hc, ← bt_head hl] at hcl
  have CL := Aside0.mk hcl
  have hsz : a0.size = l.length + 1 := by rw [size_list, hl]; rfl
  have q4 : 0 < a0.size := by omega
  have hx4 : ∀ h : 0 < a0.size, ((a0[0]'h).toNat : Int) = bt a0 0 := bt_at a0 0
  have h1e : (a0.extract 1 a0.size).data.toList = l := by rw [Lib.extract_to_end, hl]; rfl
  have qi4 : (0 < (a0.size : Int)) = True := eq_true (by omega)
  replace q4 := eq_true q4
  have o1 : (1 ≤ (a0.size : Int)) = True := eq_true (by omega)
  have o1b : decide (1 ≤ (a0.size : Int)) = true := decide_eq_true (by omega)
  have HW := Aside0.mk (Below.refl w.heap.size w)
  clear hc hcl
  obtain ⟨k, hk⟩ := Ev.rounds (ev_part (a0.extract 1 a0.size))
  rw [h1e] at hk
  have HN := Aside0.mk hk
  have h36 : (bt a0 0 == 36) = true := by rw [bt_head hl, hb]; rfl
  have hn := Lex.partL_le l
  rw [hp] at HN
  clear hk h1e hl hb hsz hn hp
  go_enter Tryd.func22, Tryd.ntmps22
  go_wp2_with (first | (go_at_call 20; (with_reducible refine (lexer_class.calls 10 (bt a0 0) _ _ CL.out).mono ?_); rintro e w' ⟨rfl, ⟨nd, rfl⟩⟩) | (go_at_call 31; (with_reducible refine (lexer_part.calls k (a0.extract 1 a0.size) _ _ HN.out).mono ?_); rintro e w9 ⟨rfl, hb9⟩; have HB := Aside0.mk (below_step (pw_below_drewN (below_alloc HW.out _) nd) hb9); have BK := Aside0.mk (blk_below (blk_drewN (blk_new w (.cells #[.int .i64 0, .string ⟨#[]⟩, .int .i64 0] 29)) nd) hb9); clear hb9; have z0 : w9.cell? ⟨w.heap.size, 0, none⟩ = some (.int .i64 0) := (blk_cell BK.out 0).trans rfl; have z1 : w9.cell? ⟨w.heap.size, 1, none⟩ = some (.string ⟨#[]⟩) := (blk_cell BK.out 1).trans rfl; have z2 : w9.cell? ⟨w.heap.size, 2, none⟩ = some (.int .i64 0) := (blk_cell BK.out 2).trans rfl; have f0 := blk_frozen BK.out 0; have f1 := blk_frozen BK.out 1; have f2 := blk_frozen BK.out 2))
  exact word_end BK.out HB.out (Nat.le_refl _) _ _ _ _ rfl rfl rfl
def numK (n : Nat) : Int := if n > 9 then 0 else 6
def numT (s : ByteArray) (n : Nat) : ByteArray := if n > 9 then ⟨#[]⟩ else s.extract 0 n
def numN (n : Nat) : Int := if n > 9 then 0 else n
set_option maxHeartbeats 4000000 in
set_option maxRecDepth 100000 in
theorem word_number (a0 : ByteArray) (b : UInt8) (l : List UInt8) (hl : a0.data.toList = b :: l) (hz : a0.size ≤ 4611686018427387904) (hb : isDig b = true) (w : World) :
    Calls Tryd.prog 22 #[.string a0] w (WordPost w (numK (1 + digL l)) (numT a0 (1 + digL l)) (numN (1 + digL l))) := by
  have huW := Tryd.underlying29
  have hc : cls (b.toNat : Int) = 5 := of_decide_eq_true ((cls_byte b).2.2.1.trans hb)
  have hcl := class_is (bt a0 0) (bt_range a0 0).1 (bt_range a0 0).2
  rw [bt_head hl, hc, ← bt_head hl] at hcl
  have CL := Aside0.mk hcl
  have hsz : a0.size = l.length + 1 := by rw [size_list, hl]; rfl
  have q4 : 0 < a0.size := by omega
  have hx4 : ∀ h : 0 < a0.size, ((a0[0]'h).toNat : Int) = bt a0 0 := bt_at a0 0
  have h1e : (a0.extract 1 a0.size).data.toList = l := by rw [Lib.extract_to_end, hl]; rfl
  have qi4 : (0 < (a0.size : Int)) = True := eq_true (by omega)
  replace q4 := eq_true q4
  have o1 : (1 ≤ (a0.size : Int)) = True := eq_true (by omega)
  have o1b : decide (1 ≤ (a0.size : Int)) = true := decide_eq_true (by omega)
  have HW := Aside0.mk (Below.refl w.heap.size w)
  clear hc hcl
  have HX : Aside0 (∀ n : Nat, 1 ≤ n → n < a0.size → ∃ c, l[n - 1]? = some c ∧ bt a0 (n : Int) = (c.toNat : Int)) := ⟨fun n h1 h2 => by
    obtain ⟨n, rfl⟩ : ∃ m, n = m + 1 := ⟨n - 1, by omega⟩
    have h3 : n < l.length := by omega
    refine ⟨l[n], by simp [h3], ?_⟩
    obtain ⟨⟨bs⟩⟩ := a0
    simp only at hl
    subst hl
    unfold bt
    rw [dif_pos (by simpa [ByteArray.size] using h3)]
    rfl⟩
  have hl1 : 1 ≤ a0.size := by omega
  clear h1e hl hb
  have HSZ := Aside0.mk hsz
  clear hsz
  go_enter Tryd.func22, Tryd.ntmps22
  go_wp2_with (first | (go_at_call 20; (with_reducible refine (lexer_class.calls 10 (bt a0 0) _ _ CL.out).mono ?_); rintro e w' ⟨rfl, ⟨nd, rfl⟩⟩))
  have HB := Aside0.mk (pw_below_drewN (below_alloc HW.out (.cells #[.int .i64 0, .string ⟨#[]⟩, .int .i64 0] 29)) nd)
  have BK := Aside0.mk (blk_drewN (blk_new w (.cells #[.int .i64 0, .string ⟨#[]⟩, .int .i64 0] 29)) nd)
  generalize (w.alloc (.cells #[.int .i64 0, .string ⟨#[]⟩, .int .i64 0] 29)).drewN nd = w4 at *
  have z0 : w4.cell? ⟨w.heap.size, 0, none⟩ = some (.int .i64 0) := (blk_cell BK.out 0).trans rfl
  have z1 : w4.cell? ⟨w.heap.size, 1, none⟩ = some (.string ⟨#[]⟩) := (blk_cell BK.out 1).trans rfl
  have z2 : w4.cell? ⟨w.heap.size, 2, none⟩ = some (.int .i64 0) := (blk_cell BK.out 2).trans rfl
  have f0 := blk_frozen BK.out 0
  have f1 := blk_frozen BK.out 1
  have f2 := blk_frozen BK.out 2
  go_loopw [6] (fun i wr => ∃ n q : Nat, i = .int .i64 n ∧ 1 ≤ n ∧ n ≤ a0.size ∧ Aside0 (∀ j : Nat, j < n - 1 → ∃ c : UInt8, l[j]? = some c ∧ isDig c = true) ∧ wr = w4.drewN q) (fun i _ => a0.size - (intOf i).toNat)
  case atStart => exact ⟨1, 0, rfl, Nat.le_refl _, hl1, ⟨fun j hj => absurd hj (by omega)⟩, rfl⟩
  case round =>
    obtain ⟨n, q, rfl, hn1, hn2, HD, rfl⟩ := hrel
    by_cases hlt : n < a0.size
    · obtain ⟨c, hc, hbc⟩ := HX.out n hn1 hlt
      have hcl := class_is (bt a0 (n : Int)) (bt_range a0 _).1 (bt_range a0 _).2
      rw [hbc] at hcl
      have hc5 := (cls_byte c).2.2.1
      have hx : ∀ h : n < a0.size, ((a0[n]'h).toNat : Int) = bt a0 (n : Int) := bt_at a0 n
      rw [hbc] at hx
      cases hd : isDig c with
      | true =>
        rw [hd] at hc5
        rw [of_decide_eq_true hc5] at hcl
        have CN := Aside0.mk hcl
        have HD2 : Aside0 (∀ j : Nat, j < n + 1 - 1 → ∃ c : UInt8, l[j]? = some c ∧ isDig c = true) := ⟨fun j hj => by
          by_cases e : j = n - 1
          · subst e; exact ⟨c, hc, hd⟩
          · exact HD.out j (by omega)⟩
        clear hc hcl hc5 hd hbc
        go_wp2_with (go_at_call 20; (with_reducible refine (lexer_class.calls 10 (c.toNat : Int) _ _ CN.out).mono ?_); rintro e w' ⟨rfl, ⟨nd, rfl⟩⟩)
        go_roundw
        case rel => exact ⟨n + 1, q + nd, by go_num, by omega, by omega, HD2, rfl⟩
        case measure => simp [intOf]; omega
      | false =>
        have CN := Aside0.mk hcl
        have hne : (cls (c.toNat : Int) == 5) = false := by rw [hd] at hc5; exact beq_eq_false_iff_ne.2 (of_decide_eq_false hc5)
        have HE : Aside0 (1 + digL l = n) := ⟨by rw [Lex.digL_here l (n - 1) (fun j hj => HD.out j hj) (by have := HSZ.out; omega) (fun d hd2 => by rw [hc] at hd2; cases hd2; exact hd)]; omega⟩
        clear hc hcl hc5 hd hbc
        by_cases h9 : n ≤ 9
        · go_wp2_with (go_at_call 20; (with_reducible refine (lexer_class.calls 10 (c.toNat : Int) _ _ CN.out).mono ?_); rintro e w' ⟨rfl, ⟨nd, rfl⟩⟩)
          rw [HE.out, show numK n = 6 from if_neg (by omega), show numT a0 n = a0.extract 0 n from if_neg (by omega), show numN n = (n : Int) from if_neg (by omega)]
          exact word_end (blk_drewN BK.out _) (pw_below_drewN HB.out _) (Nat.le_refl _) _ _ _ _ rfl rfl rfl
        · have h10 : 10 ≤ n := by omega
          clear h9
          go_wp2_with (go_at_call 20; (with_reducible refine (lexer_class.calls 10 (c.toNat : Int) _ _ CN.out).mono ?_); rintro e w' ⟨rfl, ⟨nd, rfl⟩⟩)
          rw [HE.out, show numK n = 0 from if_pos (by omega), show numT a0 n = ⟨#[]⟩ from if_pos (by omega), show numN n = 0 from if_pos (by omega)]
          exact word_end (blk_drewN BK.out _) (pw_below_drewN HB.out _) (Nat.le_refl _) _ _ _ _ rfl rfl rfl
    · have HE : Aside0 (1 + digL l = n) := ⟨by rw [Lex.digL_here l (n - 1) (fun j hj => HD.out j hj) (by have := HSZ.out; omega) (fun d hd2 => by have := (List.getElem?_eq_some_iff.1 hd2).1; have := HSZ.out; omega)]; omega⟩
      by_cases h9 : n ≤ 9
      · go_wp2_with fail
        rw [HE.out, show numK n = 6 from if_neg (by omega), show numT a0 n = a0.extract 0 n from if_neg (by omega), show numN n = (n : Int) from if_neg (by omega)]
        exact word_end (blk_drewN BK.out _) (pw_below_drewN HB.out _) (Nat.le_refl _) _ _ _ _ rfl rfl rfl
      · have h10 : 10 ≤ n := by omega
        clear h9
        go_wp2_with fail
        rw [HE.out, show numK n = 0 from if_pos (by omega), show numT a0 n = ⟨#[]⟩ from if_pos (by omega), show numN n = 0 from if_pos (by omega)]
        exact word_end (blk_drewN BK.out _) (pw_below_drewN HB.out _) (Nat.le_refl _) _ _ _ _ rfl rfl rfl
def signAt (k : Nat) : ByteArray := signB.getD k ⟨#[]⟩
theorem sign_idx : ∀ k : Nat, k < 15 → ∀ W, (Instr.index 42 (.agg signCells) (.int .i64 (k : Int))).run Tryd.prog W = .ok (.string (signAt k)) W
  | 0, _ => fun _ => by kernel_rfl
  | 1, _ => fun _ => by kernel_rfl
  | 2, _ => fun _ => by kernel_rfl
  | 3, _ => fun _ => by kernel_rfl
  | 4, _ => fun _ => by kernel_rfl
  | 5, _ => fun _ => by kernel_rfl
  | 6, _ => fun _ => by kernel_rfl
  | 7, _ => fun _ => by kernel_rfl
  | 8, _ => fun _ => by kernel_rfl
  | 9, _ => fun _ => by kernel_rfl
  | 10, _ => fun _ => by kernel_rfl
  | 11, _ => fun _ => by kernel_rfl
  | 12, _ => fun _ => by kernel_rfl
  | 13, _ => fun _ => by kernel_rfl
  | 14, _ => fun _ => by kernel_rfl
  | n + 15, h => absurd h (by omega)
theorem sign_size : ∀ k : Nat, k < 15 → (signAt k).size ≤ 2 := by decide
def signK (l : List UInt8) : Int := match signL l with | none => 0 | some _ => 7
def signT (s : ByteArray) (l : List UInt8) : ByteArray := match signL l with | none => ⟨#[]⟩ | some x => s.extract 0 x.length
def signN (l : List UInt8) : Int := match signL l with | none => 0 | some x => (x.length : Int)
theorem sign_get (k : Nat) (h : k < 15) : Lex.signs[k]? = some (signAt k).data.toList := by
  have : ∀ k : Fin 15, Lex.signs[k.val]? = some (signAt k.val).data.toList := by decide
  exact this ⟨k, h⟩
theorem signL_none (l : List UInt8) (h : ∀ j, j < 15 → (signAt j).data.toList.isPrefixOf l = false) : signL l = none := by
  unfold signL
  rw [List.find?_eq_none]
  intro x hx
  obtain ⟨j, hj, rfl⟩ := List.mem_iff_getElem.1 hx
  have h15 : j < 15 := hj
  have := sign_get j h15
  rw [List.getElem?_eq_getElem hj, Option.some.injEq] at this
  rw [this, h j h15]
  decide
theorem signL_some (l : List UInt8) (k : Nat) (hk : k < 15) (h : ∀ j, j < k → (signAt j).data.toList.isPrefixOf l = false) (hp : (signAt k).data.toList.isPrefixOf l = true) : signL l = some (signAt k).data.toList := by
  unfold signL
  rw [List.find?_eq_some_iff_getElem]
  have hlen : Lex.signs.length = 15 := rfl
  have hg : ∀ j (hj : j < Lex.signs.length), Lex.signs[j] = (signAt j).data.toList := fun j hj => by
    have := sign_get j (by omega)
    rwa [List.getElem?_eq_getElem hj, Option.some.injEq] at this
  refine ⟨hp, k, by omega, hg k (by omega), fun j hj => ?_⟩
  rw [hg j (by omega), h j hj]
  rfl
theorem pre_extract {s x : ByteArray} (h : x.data.toList.isPrefixOf s.data.toList = true) : s.extract 0 x.data.toList.length = x := by
  have h2 := List.isPrefixOf_iff_prefix.1 h
  rw [List.prefix_iff_eq_take] at h2
  apply Go.WideShapes.bytes_inj
  rw [Lib.extract_from_zero, ← h2]
set_option maxHeartbeats 4000000 in
set_option maxRecDepth 100000 in
theorem word_sign (a0 : ByteArray) (b : UInt8) (l : List UInt8) (hl : a0.data.toList = b :: l) (hz : a0.size ≤ 4611686018427387904) (h3 : isSmall b = false) (h4 : isGreat b = false) (h5 : isDig b = false) (h6 : (b == 39 || b == 34) = false) (h36 : b ≠ 36) (w : World) (hamb : Amb w) :
    Calls Tryd.prog 22 #[.string a0] w (WordPost w (signK (b :: l)) (signT a0 (b :: l)) (signN (b :: l))) := by
  have huW := Tryd.underlying29
  obtain ⟨ta, fra, hA⟩ := hamb
  obtain ⟨z, hz2⟩ : ∃ z, z = cls (b.toNat : Int) := ⟨_, rfl⟩
  obtain ⟨t3, t4, t5, t6, -, -⟩ := cls_byte b
  rw [← hz2] at t3 t4 t5 t6
  have e3 : (z == 3) = false := by rw [h3] at t3; exact beq_eq_false_iff_ne.2 (of_decide_eq_false t3)
  have e4 : (z == 4) = false := by rw [h4] at t4; exact beq_eq_false_iff_ne.2 (of_decide_eq_false t4)
  have e5 : (z == 5) = false := by rw [h5] at t5; exact beq_eq_false_iff_ne.2 (of_decide_eq_false t5)
  have e6 : (z == 6) = false := by rw [h6] at t6; exact beq_eq_false_iff_ne.2 (of_decide_eq_false t6)
  have e36 : (bt a0 0 == 36) = false := by
    rw [bt_head hl]
    exact beq_eq_false_iff_ne.2 (fun e => h36 (UInt8.toNat_inj.1 (by simpa using (Int.ofNat_inj.1 e))))
  have hcl := class_is (bt a0 0) (bt_range a0 0).1 (bt_range a0 0).2
  rw [bt_head hl, ← hz2, ← bt_head hl] at hcl
  have CL := Aside0.mk hcl
  have hsz : a0.size = l.length + 1 := by rw [size_list, hl]; rfl
  have q4 : 0 < a0.size := by omega
  have hx4 : ∀ h : 0 < a0.size, ((a0[0]'h).toNat : Int) = bt a0 0 := bt_at a0 0
  have h1e : (a0.extract 1 a0.size).data.toList = l := by rw [Lib.extract_to_end, hl]; rfl
  have qi4 : (0 < (a0.size : Int)) = True := eq_true (by omega)
  replace q4 := eq_true q4
  have o1 : (1 ≤ (a0.size : Int)) = True := eq_true (by omega)
  have o1b : decide (1 ≤ (a0.size : Int)) = true := decide_eq_true (by omega)
  have HW := Aside0.mk (Below.refl w.heap.size w)
  clear hcl t3 t4 t5 t6 hz2 h3 h4 h5 h6 h36
  have hpre : ∀ x : ByteArray, strings_HasPrefix.f a0 x = some (x.data.toList.isPrefixOf (b :: l)) := fun x => by rw [hasPrefix_is, hl]
  have HP := Aside0.mk hpre
  have HL := Aside0.mk hl
  have HA := Aside0.mk (blk_alloc hA (.cells #[.int .i64 0, .string ⟨#[]⟩, .int .i64 0] 29))
  clear hpre hl h1e hsz hA
  go_enter Tryd.func22, Tryd.ntmps22
  go_wp2_with (first | (go_at_call 20; (with_reducible refine (lexer_class.calls 10 (bt a0 0) _ _ CL.out).mono ?_); rintro e w' ⟨rfl, ⟨nd, rfl⟩⟩) | ((with_reducible refine gate_dst (N := 95) rfl ?_); refine wpList_load_row rfl 42 _ rfl 0 rfl ta signCells fra _ (blk_drewN HA.out _) Tryd.underlying42 rfl (by kernel_rfl) ?_))
  have HB := Aside0.mk (pw_below_drewN (below_alloc HW.out (.cells #[.int .i64 0, .string ⟨#[]⟩, .int .i64 0] 29)) nd)
  have BK := Aside0.mk (blk_drewN (blk_new w (.cells #[.int .i64 0, .string ⟨#[]⟩, .int .i64 0] 29)) nd)
  generalize (w.alloc (.cells #[.int .i64 0, .string ⟨#[]⟩, .int .i64 0] 29)).drewN nd = w4 at *
  have z0 : w4.cell? ⟨w.heap.size, 0, none⟩ = some (.int .i64 0) := (blk_cell BK.out 0).trans rfl
  have z1 : w4.cell? ⟨w.heap.size, 1, none⟩ = some (.string ⟨#[]⟩) := (blk_cell BK.out 1).trans rfl
  have z2 : w4.cell? ⟨w.heap.size, 2, none⟩ = some (.int .i64 0) := (blk_cell BK.out 2).trans rfl
  have f0 := blk_frozen BK.out 0
  have f1 := blk_frozen BK.out 1
  have f2 := blk_frozen BK.out 2
  go_loopw [96] (fun i wr => ∃ n q : Nat, i = .int .i64 n ∧ n ≤ 15 ∧ Aside0 (∀ j : Nat, j < n → (signAt j).data.toList.isPrefixOf (b :: l) = false) ∧ wr = w4.drewN q) (fun i _ => 15 - (intOf i).toNat)
  case atStart => exact ⟨0, 0, rfl, by omega, ⟨fun j hj => absurd hj (by omega)⟩, rfl⟩
  case round =>
    obtain ⟨n, q, rfl, hn1, HD, rfl⟩ := hrel
    by_cases hlt : n < 15
    · have hix := sign_idx n hlt
      have hpn := HP.out (signAt n)
      cases hp : (signAt n).data.toList.isPrefixOf (b :: l) with
      | false =>
        rw [hp] at hpn
        have CN := Aside0.mk hpn
        have HD2 : Aside0 (∀ j : Nat, j < n + 1 → (signAt j).data.toList.isPrefixOf (b :: l) = false) := ⟨fun j hj => by
          by_cases e : j = n
          · subst e; exact hp
          · exact HD.out j (by omega)⟩
        clear hpn hp
        go_wp2_with (go_at_call 32; (with_reducible refine (strings_HasPrefix.calls a0 (signAt n) _ _ CN.out).mono ?_); rintro e w' ⟨rfl, ⟨nd, rfl⟩⟩)
        go_roundw
        case rel => exact ⟨n + 1, q + nd, by go_num, by omega, HD2, rfl⟩
        case measure => simp [intOf]; omega
      | true =>
        have hs := signL_some (b :: l) n hlt (fun j hj => HD.out j hj) hp
        have hex := pre_extract (s := a0) (x := signAt n) (by rw [HL.out]; exact hp)
        rw [hp] at hpn
        have CN := Aside0.mk hpn
        have HK : Aside0 (signK (b :: l) = 7 ∧ signT a0 (b :: l) = signAt n ∧ signN (b :: l) = ((signAt n).size : Int)) := ⟨by
          unfold signK signT signN
          rw [hs]
          exact ⟨rfl, hex, by rw [size_list]⟩⟩
        clear hpn hp hs hex
        go_wp2_with (go_at_call 32; (with_reducible refine (strings_HasPrefix.calls a0 (signAt n) _ _ CN.out).mono ?_); rintro e w' ⟨rfl, ⟨nd, rfl⟩⟩)
        rw [HK.out.1, HK.out.2.1, HK.out.2.2]
        exact word_end (blk_drewN BK.out _) (pw_below_drewN HB.out _) (Nat.le_refl _) _ _ _ _ rfl rfl rfl
    · obtain rfl : n = 15 := by omega
      have hs := signL_none (b :: l) (fun j hj => HD.out j hj)
      have HK : Aside0 (signK (b :: l) = 0 ∧ signT a0 (b :: l) = ⟨#[]⟩ ∧ signN (b :: l) = 0) := ⟨by
        unfold signK signT signN
        rw [hs]
        exact ⟨rfl, rfl, rfl⟩⟩
      clear hs
      go_wp2_with fail
      rw [HK.out.1, HK.out.2.1, HK.out.2.2]
      exact word_end (blk_drewN BK.out _) (pw_below_drewN HB.out _) (Nat.le_refl _) _ _ _ _ rfl rfl rfl
theorem lexer_word.post {a0 : ByteArray} {w : World} {k n : Int} {t : ByteArray} {r1 r3 r4 : Int} {r2 : ByteArray} (h : some (k, t, (0 : Int), n) = some (r1, r2, r3, r4)) (hc : Calls Tryd.prog 22 #[.string a0] w (WordPost w k t n)) :
    Calls Tryd.prog 22 #[.string a0] w fun e w' => e = .returned (.tuple #[.agg #[.int .i64 r1, .string r2, .int .i64 r3], .int .i64 r4]) ∧ Below w.heap.size w w' := by
  simp only [Option.some.injEq, Prod.mk.injEq] at h
  obtain ⟨rfl, rfl, rfl, rfl⟩ := h
  exact hc.mono fun _ _ ⟨he, hb⟩ => ⟨he, hb⟩
theorem lexer_word.calls (a0 : ByteArray) (r1 : Int) (r2 : ByteArray) (r3 : Int) (r4 : Int) (w : World) (hamb : Amb w) (h : lexer_word.f a0 = some (r1, r2, r3, r4)) :
    Calls Tryd.prog 22 #[.string a0] w fun e w' => e = .returned (.tuple #[.agg #[.int .i64 r1, .string r2, .int .i64 r3], .int .i64 r4]) ∧ Below w.heap.size w w' := by
  unfold lexer_word.f at h
  split at h
  · cases h
  · rename_i hne
    have hz : a0.size ≤ 4611686018427387904 := Nat.le_of_not_lt fun hlt => hne (.inr hlt)
    have hn0 : a0.data.toList ≠ [] := fun e => hne (.inl e)
    cases hl : a0.data.toList with
    | nil => exact absurd hl hn0
    | cons b l =>
      rw [hl, Lex.wordL_cons] at h
      cases hs : isSmall b with
      | true =>
        simp only [hs, if_true] at h
        exact lexer_word.post h (word_small a0 b l hl hz hs w)
      | false =>
      cases hg : isGreat b with
      | true =>
        simp only [hs, hg, if_true, if_false, Bool.false_eq_true] at h
        refine lexer_word.post h ?_
        have e : ((1 + runL l : Nat) : Int) = 1 + (runL l : Int) := by omega
        rw [e]
        exact word_great a0 b l hl hz hg w
      | false =>
      cases hd : isDig b with
      | true =>
        simp only [hs, hg, hd, if_true, if_false, Bool.false_eq_true] at h
        refine lexer_word.post (k := numK (1 + digL l)) (t := numT a0 (1 + digL l)) (n := numN (1 + digL l)) (h ▸ ?_) (word_number a0 b l hl hz hd w)
        unfold numK numT numN
        by_cases h9 : 1 + digL l > 9
        · rw [if_pos h9, if_pos h9, if_pos h9, if_pos h9]
        · rw [if_neg h9, if_neg h9, if_neg h9, if_neg h9]
          rfl
      | false =>
      simp only [hs, hg, hd, if_false, Bool.false_eq_true] at h
      by_cases hq : b = 39 ∨ b = 34
      · rw [if_pos hq] at h
        cases hi : idxL l b with
        | none =>
          rw [hi] at h
          exact lexer_word.post h (word_open a0 b l hl hz hq hi w)
        | some i =>
          rw [hi] at h
          refine lexer_word.post (k := if b = 34 then 5 else 4) (n := (i : Int) + 2) (t := a0.extract 1 (1 + i)) (h ▸ ?_) (word_quote a0 b l hl hz hq i hi w)
          by_cases h34 : b = 34
          · simp only [h34, if_true]
            rfl
          · simp only [h34, if_false]
            rfl
      · rw [if_neg hq] at h
        by_cases h36 : b = 36
        · rw [if_pos h36] at h
          by_cases hp : partL l = 0
          · rw [if_pos hp] at h
            exact lexer_word.post h (word_dollar0 a0 b l hl hz h36 hp w)
          · rw [if_neg hp] at h
            refine lexer_word.post h ?_
            have e : ((1 + partL l : Nat) : Int) = 1 + (partL l : Int) := by omega
            rw [e]
            exact word_dollar a0 b l hl hz h36 hp w
        · rw [if_neg h36] at h
          have hq2 : (b == 39 || b == 34) = false := by
            cases hx : (b == 39 || b == 34) with
            | false => rfl
            | true => exact absurd (by simpa using hx) hq
          refine lexer_word.post (k := signK (b :: l)) (t := signT a0 (b :: l)) (n := signN (b :: l)) (h ▸ ?_) (word_sign a0 b l hl hz hs hg hd hq2 h36 w hamb)
          unfold signK signT signN
          cases signL (b :: l) with
          | none => rfl
          | some x => rfl

end Go.Proofs.YtjjhopcbipedaaaDoor.PX
