-- printed by wip/printx (a program of this session's, over the kit's print)
import Derived.Test.YtkcfjnacnabdaaaPGx0
import Derived.Test.YtkcfjnacnabdaaaPGx2
namespace Go.Proofs.Ytkcfjnacnabdaaa.PG
open Go.RowKit Go.Proofs.YtkcfjnacnabdaaaW.PrintWords Go.Proofs.YtkcfjnacnabdaaaW.PrintLast Go.Proofs.YtkcfjnacnabdaaaW.PrintMore
attribute [local go_sem] max2_int min2_int max_two min_two max_three min_three max_four min_four Go.Proofs.Ytkcfjnacnabdaaa.PxMore.isSome_setCell   -- for this text's walks alone
set_option linter.unusedVariables false
set_option linter.unusedSimpArgs false

/-! ### graph_Order: function 9 -/

def bools (l : List Bool) : Array Value := (l.map Value.bool).toArray
/-- The array of a call: block g. -/
def ArrAt (w : World) (g : Nat) (d : List Bool) : Prop := w.heap[g]? = some (.cells (bools d) 40 (0, 0)) ∧ d.length = 32
theorem ArrAt.lt {w : World} {g : Nat} {d : List Bool} (h : ArrAt w g d) : g < w.heap.size := (Array.getElem?_eq_some_iff.1 h.1).1
theorem ArrAt.below {w w' : World} {g : Nat} {d : List Bool} (h : ArrAt w g d) (hb : Below w.heap.size w w') : ArrAt w' g d := ⟨(hb.block g h.lt).trans h.1, h.2⟩
theorem ArrAt.cell {w : World} {g : Nat} {d : List Bool} (h : ArrAt w g d) (i : Int) (h0 : 0 ≤ i) (h1 : i < 32) : w.cell? ⟨g, i.toNat, none⟩ = some (.bool (rdOf false d i)) := by
  have hl := h.2
  unfold World.cell?
  rw [h.1]
  simp [bools, rdOf, List.getD_eq_getElem?_getD, List.getElem?_eq_getElem (show i.toNat < d.length by omega)]
def waitsP (d : List Bool) (i : Int) (x : S32) : Bool := decide (x.f1 = i) && !rdOf false d x.f0
def waitsG (d : List Bool) (l : List S32) (i : Int) : Int := match l.find? (waitsP d i) with | some x => x.f0 | none => -1
theorem waits_hit (d : List Bool) (l : List S32) (i : Int) (kk : Nat) (hk : kk < l.length) (h : waitsP d i (rd_T32 l kk) = true) (hA : ∀ j, j < kk → waitsP d i (rd_T32 l j) = false) : waitsG d l i = (rd_T32 l kk).f0 := by
  unfold waitsG
  have : l.find? (waitsP d i) = some (rd_T32 l kk) := by
    rw [List.find?_eq_some_iff_getElem]
    refine ⟨h, kk, hk, (rd_get hk).symm, fun j hj => ?_⟩
    have := hA j hj
    rw [rd_get (by omega)] at this
    rw [this]; rfl
  rw [this]
theorem waits_miss (d : List Bool) (l : List S32) (i : Int) (hA : ∀ j, j < l.length → waitsP d i (rd_T32 l j) = false) : waitsG d l i = -1 := by
  unfold waitsG
  have : l.find? (waitsP d i) = none := by
    rw [List.find?_eq_none]
    intro x hx
    obtain ⟨j, hj, rfl⟩ := List.getElem_of_mem hx
    have := hA j hj
    rw [rd_get hj] at this
    rw [this]; decide
  rw [this]
set_option maxHeartbeats 4000000 in
set_option maxRecDepth 100000 in
theorem graph_waits.calls (A1 : Option Addr) (c1 : Nat) (l1 : List S32) (d : List Bool) (i : Int) (p3 p7 : Nat) (w : World) (hr1 : Kd.C k32 w A1 l1.length l1) (hc1 : l1.length ≤ c1) (hl : l1.length ≤ 9223372036854775807)
    (h3 : w.cell? ⟨p3, 0, none⟩ = some (.slice A1 l1.length c1)) (ha : ArrAt w p7 d) (hok : ∀ x ∈ l1, 0 ≤ x.f0 ∧ x.f0 < 32) :
    Calls Try.prog 16 #[.int .i64 i, .pointer (some ⟨p3, 0, none⟩), .pointer (some ⟨p7, 0, none⟩)] w fun e w' => e = .returned (.int .i64 (waitsG d l1 i)) ∧ Below w.heap.size w w' := by
  have HR1 := Aside0.mk hr1
  have HC1 := Aside0.mk hc1
  have HA := Aside0.mk ha
  have HO := Aside0.mk hok
  clear hr1 hc1 ha hok
  go_enter Try.func16, Try.ntmps16
  go_wp2
  go_loopg [9] l1.length (fun gg s9 wr => ∃ kk : Nat, kk ≤ l1.length ∧ l1.length - kk ≤ gg ∧ s9 = .int .i64 kk ∧ Aside0 (Below w.heap.size w wr) ∧ Aside0 (∀ j, j < kk → waitsP d i (rd_T32 l1 j) = false))
  case atStart => exact ⟨0, Nat.zero_le _, by omega, rfl, ⟨Below.refl _ _⟩, ⟨fun j hj => absurd hj (Nat.not_lt_zero _)⟩⟩
  case round =>
    obtain ⟨kk, hkk, hg, rfl, BL, A⟩ := hrel
    by_cases hlt : kk < l1.length
    · have hltz : (kk : Int) < (l1.length : Int) := by omega
      obtain ⟨ad, e, hx0, hx1, hx2⟩ := at_T32 HR1.out (kk : Int) (by omega) hltz
      subst e
      rw [Int.toNat_natCast] at hx0 hx1 hx2
      replace hx0 := (BL.out.cell (World.block_lt_of_cell? w _ hx0)).trans hx0
      replace hx1 := (BL.out.cell (World.block_lt_of_cell? w _ hx1)).trans hx1
      replace hx2 := (BL.out.cell (World.block_lt_of_cell? w _ hx2)).trans hx2
      obtain ⟨x, hx⟩ : ∃ x, rd_T32 l1 kk = x := ⟨_, rfl⟩
      obtain ⟨o0, o1⟩ := HO.out x (by rw [← hx, rd_get hlt]; exact List.getElem_mem hlt)
      rw [hx] at hx0 hx1 hx2
      have HX := Aside0.mk hx
      clear hx
      have hcell : ∀ o, (wr.alloc o).cell? ⟨p7, x.f0.toNat, none⟩ = some (.bool (rdOf false d x.f0)) := fun o => Lib.cell?_alloc_some _ ((HA.out.below BL.out).cell x.f0 o0 o1)
      by_cases hi : x.f1 = i
      · have hi' : decide (x.f1 = i) = true := decide_eq_true hi
        cases hd : rdOf false d x.f0 with
        | true =>
          rw [hd] at hcell
          go_wp2
          go_roundg (l1.length - (kk + 1))
          case measure => omega
          case rel =>
            refine ⟨kk + 1, by omega, by omega, by go_num, ⟨below_alloc BL.out _⟩, ⟨fun j hj => ?_⟩⟩
            by_cases e : j = kk
            · subst e; rw [HX.out]; unfold waitsP; rw [hd]; simp
            · exact A.out j (by omega)
        | false =>
          rw [hd] at hcell
          go_wp2
          go_ret
          refine ⟨?_, below_alloc BL.out _⟩
          rw [waits_hit d l1 i kk hlt (by rw [HX.out]; unfold waitsP; rw [hd, hi']; rfl) A.out, HX.out]
          rfl
      · have hi' : decide (x.f1 = i) = false := decide_eq_false hi
        go_wp2
        go_roundg (l1.length - (kk + 1))
        case measure => omega
        case rel =>
          refine ⟨kk + 1, by omega, by omega, by go_num, ⟨below_alloc BL.out _⟩, ⟨fun j hj => ?_⟩⟩
          by_cases e : j = kk
          · subst e; rw [HX.out]; unfold waitsP; rw [hi']; rfl
          · exact A.out j (by omega)
    · have hltz : ¬ (kk : Int) < (l1.length : Int) := by omega
      have : kk = l1.length := by omega
      subst this
      go_wp2
      go_ret
      exact ⟨by rw [waits_miss d l1 i A.out]; rfl, BL.out⟩

def idxG (a : Int) : List Int → Nat
  | [] => 0
  | x :: r => if a = x then 0 else idxG a r + 1
theorem idxG_lt {a : Int} : ∀ {l : List Int}, a ∈ l → idxG a l < l.length
  | x :: r, h => by
    unfold idxG
    split
    · simp
    · rename_i hx
      rcases List.mem_cons.1 h with e | h
      · exact absurd e hx
      · have := idxG_lt h
        rw [List.length_cons]; omega
theorem index_step (k : Nat) (l : List Int) (a n j : Int) : slices_Index_int_int.l0 (k + 1) l a n j = if j < n then (if 0 ≤ j then (if j < (l.length : Int) then (if a = rd l j then some j else slices_Index_int_int.l0 k l a n (wrap64 (j + 1))) else none) else none) else some (-1) := by
  simp only [slices_Index_int_int.l0]
theorem reverse_step (k : Nat) (l : List Int) (i j : Int) : slices_Reverse_int_int.l0 (k + 1) l i j = if i < j then (if 0 ≤ j then (if j < (l.length : Int) then (if 0 ≤ i then (if i < (l.length : Int) then slices_Reverse_int_int.l0 k ((l.set i.toNat (rd l j)).set j.toNat (rd l i)) (wrap64 (i + 1)) (wrap64 (j - 1)) else none) else none) else none) else none) else some l := by
  simp only [slices_Reverse_int_int.l0]
theorem index_from (a : Int) : ∀ (suf pre : List Int), pre.length + suf.length < 4611686018427387904 → slices_Index_int_int.l0 (suf.length + 1) (pre ++ suf) a (((pre ++ suf).length : Nat) : Int) (pre.length : Int) = some (if a ∈ suf then ((pre.length + idxG a suf : Nat) : Int) else -1)
  | [], pre, h => by
    rw [List.length_nil, index_step, if_neg (by simp)]
    simp
  | x :: r, pre, h => by
    rw [List.length_cons] at h
    have hget : rd (pre ++ x :: r) (pre.length : Int) = x := by
      unfold rd
      rw [Int.toNat_natCast, List.getD_eq_getElem?_getD, List.getElem?_append_right (Nat.le_refl _), Nat.sub_self]
      rfl
    have hlen : (pre.length : Int) < (((pre ++ x :: r).length : Nat) : Int) := by rw [List.length_append, List.length_cons]; omega
    rw [List.length_cons, index_step, if_pos hlen, if_pos (by omega), if_pos hlen, hget]
    by_cases e : a = x
    · rw [if_pos e, if_pos (by rw [e]; exact List.mem_cons_self)]
      unfold idxG
      rw [if_pos e]
      rfl
    · rw [if_neg e]
      have hw : wrap64 ((pre.length : Int) + 1) = (((pre ++ [x]).length : Nat) : Int) := by
        rw [List.length_append, List.length_singleton]
        unfold wrap64
        omega
      have ih := index_from a r (pre ++ [x]) (by rw [List.length_append, List.length_singleton]; omega)
      rw [hw, show pre ++ x :: r = pre ++ [x] ++ r by rw [List.append_assoc]; rfl, ih]
      congr 1
      have hm : (a ∈ x :: r) ↔ (a ∈ r) := by simp [List.mem_cons, e]
      by_cases hr : a ∈ r
      · rw [if_pos hr, if_pos (hm.2 hr)]
        unfold idxG
        rw [if_neg e, List.length_append, List.length_singleton]
        cases r <;> simp only [idxG] <;> omega
      · rw [if_neg hr, if_neg (fun h => hr (hm.1 h))]
theorem index_some (a : Int) (l : List Int) (h : l.length < 4611686018427387904) : slices_Index_int_int.f (l.length + 1) l a = some (if a ∈ l then ((idxG a l : Nat) : Int) else -1) := by
  have := index_from a l [] (by simpa using h)
  unfold slices_Index_int_int.f
  simpa using this
theorem contains_some (a : Int) (l : List Int) (h : l.length < 4611686018427387904) : slices_Contains_int_int.f (l.length + 1) l a = some (decide (a ∈ l)) := by
  unfold slices_Contains_int_int.f
  rw [index_some a l h]
  by_cases hm : a ∈ l
  · rw [if_pos hm, Option.bind_some, decide_eq_true hm, decide_eq_true (by omega)]
  · rw [if_neg hm, Option.bind_some, decide_eq_false hm]; rfl
theorem rd_int {l : List Int} {i : Nat} (h : i < l.length) : rd l (i : Int) = l[i] := by
  unfold rd
  rw [Int.toNat_natCast, List.getD_eq_getElem?_getD, List.getElem?_eq_getElem h]
  rfl
/-- The two ends are turned: what stands between is still to turn. -/
theorem reverse_from : ∀ (n : Nat) (pre mid suf : List Int), mid.length ≤ n → pre.length + mid.length + suf.length < 4611686018427387904 →
    slices_Reverse_int_int.l0 (n + 1) (pre ++ mid ++ suf) (pre.length : Int) ((pre.length : Int) + mid.length - 1) = some (pre ++ mid.reverse ++ suf) := by
  intro n
  induction n with
  | zero =>
    intro pre mid suf h _
    have : mid = [] := List.length_eq_zero_iff.1 (by omega)
    subst this
    rw [reverse_step, if_neg (by simp; omega)]
    simp
  | succ n ih =>
    intro pre mid suf h hb
    rw [reverse_step]
    match mid, h, hb with
    | [], _, _ => rw [if_neg (by simp; omega)]; simp
    | [x], _, _ => rw [if_neg (by simp)]; simp
    | x :: y :: t, h, hb =>
      obtain ⟨m, z, hm⟩ : ∃ m z, y :: t = m ++ [z] := ⟨(y :: t).dropLast, (y :: t).getLast (by simp), (List.dropLast_concat_getLast (by simp)).symm⟩
      rw [hm] at h hb ⊢
      simp only [List.length_cons, List.length_append, List.length_nil, Nat.zero_add] at h hb
      rw [show (((x :: (m ++ [z])).length : Nat) : Int) = ((m.length + 1 + 1 : Nat) : Int) by simp]
      have hx : rd (pre ++ (x :: (m ++ [z])) ++ suf) (pre.length : Int) = x := by
        rw [rd_int (by simp only [List.length_append, List.length_cons]; omega)]
        simp
      have hz : rd (pre ++ (x :: (m ++ [z])) ++ suf) ((pre.length : Int) + ((m.length + 1 + 1 : Nat) : Int) - 1) = z := by
        rw [show (pre.length : Int) + ((m.length + 1 + 1 : Nat) : Int) - 1 = ((pre.length + (m.length + 1) : Nat) : Int) by omega]
        unfold rd
        rw [Int.toNat_natCast, List.getD_eq_getElem?_getD, List.append_assoc, List.getElem?_append_right (by omega), Nat.add_sub_cancel_left, List.cons_append, List.getElem?_cons_succ, List.append_assoc, List.getElem?_append_right (Nat.le_refl _), Nat.sub_self]
        rfl
      have e1 : (pre.length : Int).toNat = pre.length := by omega
      have e2 : ((pre.length : Int) + ((m.length + 1 + 1 : Nat) : Int) - 1).toNat = pre.length + (m.length + 1) := by omega
      have hset : (((pre ++ (x :: (m ++ [z])) ++ suf).set pre.length z).set (pre.length + (m.length + 1)) x) = (pre ++ [z]) ++ m ++ ([x] ++ suf) := by
        rw [List.append_assoc, List.set_append_right _ _ (Nat.le_refl _), Nat.sub_self, List.set_append_right _ _ (by omega), Nat.add_sub_cancel_left]
        simp [List.set_append_right]
      have hl : (((pre ++ (x :: (m ++ [z])) ++ suf).length : Nat) : Int) = (pre.length + (m.length + 2) + suf.length : Nat) := by
        simp only [List.length_append, List.length_cons, List.length_nil]
      rw [if_pos (by omega), if_pos (by omega), if_pos (by rw [hl]; omega), if_pos (by omega), if_pos (by rw [hl]; omega), hx, hz, e1, e2, hset]
      have ih' := ih (pre ++ [z]) m ([x] ++ suf) (by omega) (by simp only [List.length_append, List.length_singleton]; omega)
      rw [show wrap64 ((pre.length : Int) + 1) = (((pre ++ [z]).length : Nat) : Int) by rw [List.length_append, List.length_singleton]; unfold wrap64; omega,
        show wrap64 ((pre.length : Int) + ((m.length + 1 + 1 : Nat) : Int) - 1 - 1) = (((pre ++ [z]).length : Nat) : Int) + (m.length : Int) - 1 by rw [List.length_append, List.length_singleton]; unfold wrap64; omega, ih']
      simp
theorem reverse_some (l : List Int) (h : l.length < 4611686018427387904) : slices_Reverse_int_int.f (l.length + 1) l = some l.reverse := by
  have := reverse_from l.length [] l [] (Nat.le_refl _) (by simpa using h)
  unfold slices_Reverse_int_int.f
  rw [show wrap64 ((l.length : Int) - 1) = (([] : List Int).length : Int) + (l.length : Int) - 1 by rw [List.length_nil]; unfold wrap64; omega]
  simpa using this
/-- From 'i' back, behind the numbers 'acc'. -/
def roundG (d : List Bool) (l : List S32) : Nat → List Int → Int → Option (List Int)
  | 0, _, _ => none
  | k + 1, acc, i => if acc.length < 1000 then (if i ∈ acc then some (acc.drop (idxG i acc)).reverse else roundG d l k (acc ++ [i]) (waitsG d l i)) else none
theorem Q_cut {w : World} {base : Nat} {ok : Nat → Prop} {A : Option Addr} {n c : Nat} {xs : List Int} (h : Kd.Q (Kd.int .i64) 3 w base ok (.slice A n c) xs) (j : Nat) (hj : j ≤ xs.length) :
    ∃ A' c', (∀ W : World, (Instr.slice 24 (.slice A n c) (some (.int .i64 (j : Int))) none none).run Try.prog W = .ok (.slice A' (xs.drop j).length c') W) ∧ Kd.Q (Kd.int .i64) 3 w base ok (.slice A' (xs.drop j).length c') (xs.drop j) := by
  obtain ⟨i0, hi, hzz⟩ := Option.map_eq_some_iff.1 info3
  simp only [Prod.mk.injEq] at hzz
  obtain ⟨hz0, hz1, hz2⟩ := hzz
  have hn := (Kd.Q_reads' h).1
  have hcut := cut_from (P := Try.prog) 24 3 .i64 Try.underlying24 hi 1 hz1 A n c (j : Int) (by omega) (by omega)
  have hq := Kd.Q_drop (k := j) h hj
  rw [Int.toNat_natCast] at hcut
  have hlen : (xs.drop j).length = n - j := by rw [List.length_drop, hn]
  exact ⟨_, _, fun W => by rw [hcut W, hlen], by rw [hlen]; exact hq⟩
set_option maxHeartbeats 8000000 in
set_option maxRecDepth 100000 in
theorem graph_round.calls (k : Nat) (A1 : Option Addr) (c1 : Nat) (l1 : List S32) (d : List Bool) (i : Int) (p3 p7 : Nat) (r : List Int) (w : World) (hr1 : Kd.C k32 w A1 l1.length l1) (hc1 : l1.length ≤ c1) (hl : l1.length ≤ 9223372036854775807)
    (h3 : w.cell? ⟨p3, 0, none⟩ = some (.slice A1 l1.length c1)) (ha : ArrAt w p7 d) (hok : ∀ x ∈ l1, 0 ≤ x.f0 ∧ x.f0 < 32) (h : roundG d l1 k [] i = some r) :
    Calls Try.prog 17 #[.int .i64 i, .func (.func 16) #[] #[.pointer (some ⟨p3, 0, none⟩), .pointer (some ⟨p7, 0, none⟩)]] w fun e w' => ∃ v0_ : Value, e = .returned v0_ ∧ Kd.Q (Kd.int .i64) 3 w' w.heap.size (fun _ => True) v0_ r ∧ Below w.heap.size w w' := by
  have HR1 := Aside0.mk hr1
  have HC1 := Aside0.mk hc1
  have HL := Aside0.mk hl
  have H3 := Aside0.mk h3
  have HA := Aside0.mk ha
  have HOK := Aside0.mk hok
  have H := Aside0.mk h
  clear hr1 hc1 ha hok h hl h3
  go_enter Try.func17, Try.ntmps17
  go_wp2
  go_loopg [0, 5] k (fun kq v0 v5 wr => ∃ (acc : List Int) (i : Int), v0 = .int .i64 i ∧ Aside0 (roundG d l1 kq acc i = some r) ∧ Aside0 (kq ≤ k) ∧ Aside0 (Kd.R (Kd.int .i64) 3 wr w.heap.size (fun _ => True) v5 acc) ∧ Aside0 (Below w.heap.size w wr))
  case atStart => exact ⟨[], i, rfl, H, ⟨Nat.le_refl _⟩, ⟨Kd.R_nil _ _ _ _ _⟩, ⟨Below.refl _ _⟩⟩
  case round =>
    clear H
    obtain ⟨acc, i, rfl, HH, HK, HO, HB⟩ := hrel
    cases gk with
    | zero => exact absurd HH.out (by simp [roundG])
    | succ k1 =>
      obtain ⟨Ao, co, eo⟩ := Kd.R_slice HO.out
      subst eo
      have hco : acc.length ≤ co := (Kd.R_reads' HO.out).2.1
      have HCO := Aside0.mk hco
      clear hco
      have hh := HH.out
      unfold roundG at hh
      by_cases hmx : acc.length < 1000
      · rw [if_pos hmx] at hh
        have HMX := Aside0.mk hmx
        clear hmx HH
        by_cases hm : i ∈ acc
        · rw [if_pos hm] at hh
          have HM := Aside0.mk hm
          have HR := Aside0.mk (Option.some.inj hh)
          clear hh
          have hd : decide (i ∈ acc) = true := decide_eq_true hm
          clear hm
          have hc := contains_some i acc (by have := HMX.out; omega)
          rw [hd] at hc
          have HCN := Aside0.mk hc
          have hx := index_some i acc (by have := HMX.out; omega)
          rw [if_pos HM.out] at hx
          have HIX := Aside0.mk hx
          have HIL := Aside0.mk (idxG_lt HM.out)
          clear hc hx hd
          obtain ⟨j, hj⟩ : ∃ j, j = idxG i acc := ⟨_, rfl⟩
          rw [← hj] at HIX HIL HR
          clear hj
          obtain ⟨A', c', hcut, hq⟩ := Q_cut (Kd.Q_of_R HO.out) j (Nat.le_of_lt HIL.out)
          have HQ := Aside0.mk hq
          have hrv := reverse_some (acc.drop j) (by have := HMX.out; rw [List.length_drop]; omega)
          rw [HR.out] at hrv
          have HRV := Aside0.mk hrv
          clear hq hrv
          obtain ⟨xs, hxs⟩ : ∃ xs, xs = acc.drop j := ⟨_, rfl⟩
          rw [← hxs] at hcut HQ HRV HR
          have HX := Aside0.mk hxs
          clear hxs
          go_wp2_with (first
            | (go_at_call 21; refine (slices_Contains_int_int.calls _ _ _ acc i true _ ?s1 HCO.out HCN.out).mono ?_; (case s1 => exact (Kd.R_reads' HO.out).2.2); rintro e w' ⟨rfl, ⟨nd, rfl⟩⟩)
            | (go_at_call 22; refine (slices_Index_int_int.calls _ _ _ acc i (j : Int) _ ?s2 HCO.out HIX.out).mono ?_; (case s2 => exact Kd.C_drewN (Kd.R_reads' HO.out).2.2 _); rintro e w' ⟨rfl, ⟨nd2, rfl⟩⟩)
            | (go_at_call 23; refine (slices_Reverse_int_int.calls _ (fun _ => True) _ xs r w _ ?s3 ?s4 HRV.out).mono ?_; (case s3 => repeat (first | exact HB.out | apply pw_below_drewN)); (case s4 => repeat (first | exact HQ.out | apply Kd.Q_drewN)); rintro e w' ⟨rfl, hq2, hb2, hk2⟩; have HQ2 := Aside0.mk hq2; have HB2 := Aside0.mk hb2; clear hq2 hb2 hk2))
          go_ret
          exact ⟨_, rfl, Kd.Q_mono HQ2.out (fun _ _ => trivial), HB2.out⟩
        · rw [if_neg hm] at hh
          have H := Aside0.mk hh
          have hd : decide (i ∈ acc) = false := decide_eq_false hm
          clear hm hh
          have hc := contains_some i acc (by have := HMX.out; omega)
          rw [hd] at hc
          have HCN := Aside0.mk hc
          clear hc hd
          have hw := fun (w' : World) (hb : Below w.heap.size w w') => graph_waits.calls A1 c1 l1 d i p3 p7 w' (Kd.C_below HR1.out hb) HC1.out HL.out ((hb.cell (World.block_lt_of_cell? w _ H3.out)).trans H3.out) (HA.out.below hb) HOK.out
          have HW := Aside0.mk hw
          clear hw
          obtain ⟨x, hx⟩ : ∃ x, x = waitsG d l1 i := ⟨_, rfl⟩
          rw [← hx] at H HW
          clear hx
          go_wp2_with (first
            | (go_at_call 21; refine (slices_Contains_int_int.calls _ _ _ acc i false _ ?s1 HCO.out HCN.out).mono ?_; (case s1 => exact (Kd.R_reads' HO.out).2.2); rintro e w' ⟨rfl, ⟨nd, rfl⟩⟩; have HO2 := Aside0.mk (Kd.R_drewN HO.out nd); have HB2 := Aside0.mk (pw_below_drewN HB.out nd))
            | ((with_reducible refine gate_builtin (b := .append) (xs := #[.tmp 10, .tmp 12]) rfl ?_); at_builtin; refine Kd.R_append (Kd.int .i64) (w0 := w) w.heap.size rfl (.tmp 10) (.tmp 12) 24 3 (.int .i64 0) 8 rfl Try.underlying24 info3 rfl (by decide) (by omega) (.slice Ao acc.length co) acc i [.int .i64 i] (fun _ => True) (fun _ => False) rfl rfl ?aP (fun _ hk => hk.elim) ?aF HO2.out HB2.out (below_size HB2.out) ?aL ?_; (case aP => exact rfl); (case aF => exact (fun _ _ => trivial)); (case aL => have := HMX.out; omega); intro v3 w3 ho hb hg hat; have HO3 := Aside0.mk ho; have HB3 := Aside0.mk hb; clear ho hb hg hat)
            | (go_at_call 16; refine (HW.out _ HB3.out).mono ?_; rintro e w' ⟨rfl, bl⟩; have HB4 := Aside0.mk (below_step HB3.out bl); have HO4 := Aside0.mk (Kd.R_below HO3.out bl); clear bl))
          go_roundg k1
          case measure => have := HK.out; omega
          case rel => exact ⟨acc ++ [i], x, rfl, H, ⟨by have := HK.out; omega⟩, HO4, HB4⟩
      · rw [if_neg hmx] at hh
        cases hh

theorem bools_set (l : List Bool) (i : Nat) (b : Bool) : (bools l).setIfInBounds i (.bool b) = bools (l.set i b) := by simp [bools]
theorem ArrAt.set {w : World} {g : Nat} {d : List Bool} (h : ArrAt w g d) (i : Nat) (b : Bool) : ArrAt (w.setCell ⟨g, i, none⟩ (.bool b)) g (d.set i b) := ⟨by rw [← bools_set]; exact blk_set h.1 i _, by rw [List.length_set]; exact h.2⟩
theorem ArrAt.grown {w w' : World} {g base : Nat} {d : List Bool} {ok : Nat → Prop} {v : Value} {xs : List Int} (h : ArrAt w g d) (ho : Kd.R (Kd.int .i64) 3 w base ok v xs) (hg : w.grownBy w' v.ownBlock) : ArrAt w' g d := ⟨blk_grown h.1 hg (Kd.R_ne ho h.1 (by decide)), h.2⟩
/-- The two variables that the closure knows: the edges (block a), what is done (block b). -/
structure OBlk (w : World) (a b : Nat) (e : Value) (d : List Bool) : Prop where
  box : w.heap[a]? = some (.cells #[e] 22 (0, 0))
  arr : ArrAt w b d
theorem OBlk.below {w w' : World} {a b : Nat} {e : Value} {d : List Bool} (h : OBlk w a b e d) (hb : Below w.heap.size w w') : OBlk w' a b e d := ⟨blk_below h.box hb, h.arr.below hb⟩
theorem OBlk.grown {w w' : World} {a b base : Nat} {e : Value} {d : List Bool} {ok : Nat → Prop} {v : Value} {xs : List Int} (h : OBlk w a b e d) (ho : Kd.R (Kd.int .i64) 3 w base ok v xs) (hg : w.grownBy w' v.ownBlock) : OBlk w' a b e d := ⟨blk_grown h.box hg (Kd.R_ne ho h.box (by decide)), h.arr.grown ho hg⟩
theorem OBlk.set {w : World} {a b : Nat} {e : Value} {d : List Bool} (h : OBlk w a b e d) (i : Nat) (x : Bool) : OBlk (w.setCell ⟨b, i, none⟩ (.bool x)) a b e (d.set i x) := ⟨blk_far h.box (blk_ne h.box h.arr.1 (by decide)) _, h.arr.set i x⟩
theorem OBlk.cell {w : World} {a b : Nat} {e : Value} {d : List Bool} (h : OBlk w a b e d) : w.cell? ⟨a, 0, none⟩ = some e := (blk_cell h.box 0).trans rfl
def scanG (d : List Bool) (l : List S32) : Nat → Int → Int → Int × Int
  | 0, _, last => (-1, last)
  | m + 1, i, last => if rdOf false d i = true then scanG d l m (i + 1) last else if waitsG d l i < 0 then (i, i) else scanG d l m (i + 1) i
theorem scanG_le (d : List Bool) (l : List S32) : ∀ (m : Nat) (i last nx ls : Int), scanG d l m i last = (nx, ls) → nx = -1 ∨ (i ≤ nx ∧ nx < i + m)
  | 0, i, last, nx, ls, h => by unfold scanG at h; exact .inl (by simpa using (congrArg Prod.fst h).symm)
  | m + 1, i, last, nx, ls, h => by
    unfold scanG at h
    split at h
    · rcases scanG_le d l m _ _ _ _ h with h | h
      · exact .inl h
      · exact .inr (by omega)
    · split at h
      · have := congrArg Prod.fst h
        simp only at this
        exact .inr (by omega)
      · rcases scanG_le d l m _ _ _ _ h with h | h
        · exact .inl h
        · exact .inr (by omega)
def orderG (n : Nat) (l : List S32) : Nat → List Bool → List Int → Option (List Int × List Int × Int)
  | 0, _, _ => none
  | k + 1, d, o => if o.length < n then (if (scanG d l n 0 (-1)).1 < 0 then (roundG d l k [] (scanG d l n 0 (-1)).2).bind fun c => some ([], c, 80) else orderG n l k (d.set (scanG d l n 0 (-1)).1.toNat true) (o ++ [(scanG d l n 0 (-1)).1])) else some (o, [], 0)
def graph_Order.f (k : Nat) (a0 : Int) (l1 : List S32) : Option (List Int × List Int × Int) := (graph_bad.f a0 l1).bind fun b => if b = true then some ([], [], 1) else orderG a0.toNat l1 k (List.replicate 32 false) []
theorem bad_false {a0 : Int} {l1 : List S32} (h : graph_bad.f a0 l1 = some false) : 0 ≤ a0 ∧ a0 ≤ 32 ∧ l1.length ≤ 9223372036854775807 ∧ ∀ x ∈ l1, 0 ≤ x.f0 ∧ x.f0 < a0 ∧ 0 ≤ x.f1 ∧ x.f1 < a0 := by
  unfold graph_bad.f at h
  split at h
  · cases h
  · split at h
    · cases h
    · split at h
      · rename_i h0 h1 hl
        refine ⟨by omega, by omega, hl, fun x hx => ?_⟩
        have := List.any_eq_false.1 (Option.some.inj h) x hx
        unfold edgeBad at this
        simp only [Bool.or_eq_true, decide_eq_true_eq, not_or] at this
        omega
      · cases h
theorem mono_round (d : List Bool) (l : List S32) : ∀ (k : Nat) (acc : List Int) (i : Int), LeO (roundG d l k acc i) (roundG d l (k + 1) acc i)
  | 0, _, _ => fun r h => by simp [roundG] at h
  | k + 1, acc, i => by
    have ih := mono_round d l k
    unfold roundG
    repeat' first
      | exact ih _ _
      | exact LeO.refl _
      | exact LeO.none _
      | refine LeO.ite ?_ ?_
theorem mono_order (n : Nat) (l : List S32) : ∀ (k : Nat) (d : List Bool) (o : List Int), LeO (orderG n l k d o) (orderG n l (k + 1) d o)
  | 0, _, _ => fun r h => by simp [orderG] at h
  | k + 1, d, o => by
    have ih := mono_order n l k
    unfold orderG
    repeat' first
      | exact ih _ _
      | exact mono_round _ _ _ _ _
      | exact LeO.refl _
      | exact LeO.none _
      | refine LeO.ite ?_ ?_
      | refine LeO.bind ?_ (fun _ => ?_)
theorem graph_Order.mono : ∀ a0 a1 k, LeO (graph_Order.f k a0 a1) (graph_Order.f (k + 1) a0 a1) := by
  intro a0 a1 k
  unfold graph_Order.f
  repeat' first
      | exact mono_order _ _ _ _ _
      | exact LeO.refl _
      | exact LeO.none _
      | refine LeO.ite ?_ ?_
      | refine LeO.bind ?_ (fun _ => ?_)
set_option maxHeartbeats 8000000 in
set_option maxRecDepth 100000 in
theorem graph_Order.calls (k : Nat) (a0 : Int) (A1 : Option Addr) (c1 : Nat) (l1 : List S32) (r1 : List Int) (r2 : List Int) (r3 : Int) (w : World) (hr1 : Kd.C k32 w A1 l1.length l1) (hc1 : l1.length ≤ c1) (h : graph_Order.f k a0 l1 = some (r1, r2, r3)) :
    Calls Try.prog 9 #[.int .i64 a0, .slice A1 l1.length c1] w fun e w' => ∃ v0_ v1_ : Value, e = .returned (.tuple #[v0_, v1_, .int .i64 r3]) ∧ Kd.R (Kd.int .i64) 3 w' w.heap.size (fun k_ => some k_ ≠ v1_.ownBlock) v0_ r1 ∧ Kd.Q (Kd.int .i64) 3 w' w.heap.size (fun k_ => some k_ ≠ v0_.ownBlock) v1_ r2 ∧ Below w.heap.size w w' := by
  have HR1 := Aside0.mk hr1
  have HC1 := Aside0.mk hc1
  clear hr1 hc1
  unfold graph_Order.f at h
  obtain ⟨b, hb, h⟩ := Option.bind_eq_some_iff.1 h
  have HBD := Aside0.mk hb
  have HM := fun (w' : World) => graph_bad.calls a0 A1 c1 l1 b w'
  have HCL := Aside0.mk HM
  clear HM
  cases b with
  | true =>
    rw [if_pos rfl] at h
    obtain ⟨rfl, rfl, rfl⟩ : [] = r1 ∧ [] = r2 ∧ 1 = r3 := by simpa using h
    clear h hb
    go_enter Try.func9, Try.ntmps9
    go_wp2_with (go_at_call 15; refine (HCL.out _ (Kd.C_alloc HR1.out _) HC1.out HBD.out).mono ?_; rintro e w' ⟨rfl, bl⟩; have BL := Aside0.mk (below_step (below_alloc (Below.refl _ _) _) bl); clear bl)
    go_ret3
    exact ⟨_, _, rfl, Kd.R_nil _ _ _ _ _, Kd.Q_nil _ _ _ _ _, BL.out⟩
  | false =>
    rw [if_neg (by decide)] at h
    obtain ⟨h0, h32, hl, hok⟩ := bad_false hb
    obtain ⟨n, rfl⟩ := Int.eq_ofNat_of_zero_le h0
    rw [Int.toNat_natCast] at h
    have hn : n ≤ 32 := by omega
    have HOK := Aside0.mk (show ∀ x ∈ l1, 0 ≤ x.f0 ∧ x.f0 < 32 from fun x hx => ⟨(hok x hx).1, by have := (hok x hx).2.1; omega⟩)
    have HL := Aside0.mk hl
    have H := Aside0.mk h
    clear h hb hok hl h0 h32
    go_enter Try.func9, Try.ntmps9
    go_wp2_with (go_at_call 15; refine (HCL.out _ (Kd.C_alloc HR1.out _) HC1.out HBD.out).mono ?_; rintro e w1 ⟨rfl, bl⟩; have BX := Aside0.mk (blk_below (blk_new _ _) bl); have BL := Aside0.mk (below_step (below_alloc (Below.refl _ _) _) bl); clear bl)
    clear h
    obtain ⟨b7, hb7⟩ : ∃ b, b = w1.heap.size := ⟨_, rfl⟩
    have OB : ∀ w2, w2 = w1.alloc (.cells (bools (List.replicate 32 false)) 40) → OBlk w2 w.heap.size b7 (.slice A1 l1.length c1) (List.replicate 32 false) := by
      rintro w2 rfl
      exact ⟨blk_alloc BX.out _, by rw [hb7]; exact blk_new _ _, by simp⟩
    have HS := BL.out.size
    rw [← hb7] at HS ⊢
    have OB2 := Aside0.mk (OB _ rfl)
    have BL2 := Aside0.mk (below_alloc BL.out (.cells (bools (List.replicate 32 false)) 40))
    have LB := Aside0.mk HS
    clear OB BX BL HCL HBD hb7 HS
    generalize hw2 : w1.alloc (.cells (bools (List.replicate 32 false)) 40) = w2 at OB2 BL2
    rw [show w1.alloc (.cells #[.bool false, .bool false, .bool false, .bool false, .bool false, .bool false, .bool false, .bool false, .bool false, .bool false, .bool false, .bool false, .bool false, .bool false, .bool false, .bool false, .bool false, .bool false, .bool false, .bool false, .bool false, .bool false, .bool false, .bool false, .bool false, .bool false, .bool false, .bool false, .bool false, .bool false, .bool false, .bool false] 40) = w2 from hw2]
    clear hw2
    go_loopg [4] k (fun kq v4 wr => ∃ (d : List Bool) (o : List Int), Aside0 (orderG n l1 kq d o = some (r1, r2, r3)) ∧ Aside0 (kq ≤ k) ∧ Aside0 (Kd.R (Kd.int .i64) 3 wr w.heap.size (fun _ => True) v4 o) ∧ Aside0 (Below w.heap.size w wr) ∧ Aside0 (OBlk wr w.heap.size b7 (.slice A1 l1.length c1) d))
    case atStart => exact ⟨_, [], H, ⟨Nat.le_refl _⟩, ⟨Kd.R_nil _ _ _ _ _⟩, BL2, OB2⟩
    case round =>
      clear H OB2 BL2
      obtain ⟨d, o, HH, HK, HO, HB, OB⟩ := hrel
      cases gk with
      | zero => exact absurd HH.out (by simp [orderG])
      | succ k1 =>
        obtain ⟨Ao, co, eo⟩ := Kd.R_slice HO.out
        subst eo
        have hh := HH.out
        unfold orderG at hh
        clear HH
        by_cases hlt : o.length < n
        · rw [if_pos hlt] at hh
          have hltz : (o.length : Int) < (n : Int) := by omega
          obtain ⟨nx, ls, hsc⟩ : ∃ nx ls, scanG d l1 n 0 (-1) = (nx, ls) := ⟨_, _, rfl⟩
          rw [hsc] at hh
          have SC := Aside0.mk hsc
          have H := Aside0.mk hh
          clear hsc hh
          go_upto_block 2 with (fail)
          go_cut [9, 10] (fun v9 v10 wc => v9 = .int .i64 nx ∧ v10 = .int .i64 ls ∧ Aside0 (Below wr.heap.size wr wc))
          case first =>
            clear H
            go_wp2
            go_loopg [9, 10, 21] n (fun gg v9 v10 v21 w' => ∃ (kk : Nat) (last : Int), kk ≤ n ∧ n - kk ≤ gg ∧ v9 = .int .i64 (-1) ∧ v10 = .int .i64 last ∧ v21 = .int .i64 kk ∧ Aside0 (scanG d l1 (n - kk) kk last = (nx, ls)) ∧ Aside0 (Below wr.heap.size wr w'))
            case atStart => exact ⟨0, -1, Nat.zero_le _, by omega, rfl, rfl, rfl, SC, ⟨Below.refl _ _⟩⟩
            case round =>
              clear SC
              obtain ⟨kk, last, hkk, hg, rfl, rfl, rfl, SC, BW⟩ := hrel
              by_cases hk : kk < n
              · have hkz : (kk : Int) < (n : Int) := by omega
                have hk32 : (kk : Int) < 32 := by omega
                have hs := SC.out
                rw [show n - kk = (n - (kk + 1)) + 1 by omega] at hs
                unfold scanG at hs
                clear SC
                have OB2 := Aside0.mk (OB.out.below BW.out)
                have hcell := OB2.out.arr.cell (kk : Int) (by omega) hk32
                rw [Int.toNat_natCast] at hcell
                cases hd : rdOf false d (kk : Int) with
                | true =>
                  rw [hd] at hcell hs
                  rw [if_pos rfl] at hs
                  have SC := Aside0.mk hs
                  clear hs hd
                  go_wp2
                  go_roundg (n - (kk + 1))
                  case measure => omega
                  case rel => exact ⟨kk + 1, last, by omega, by omega, rfl, rfl, by go_num, SC, BW⟩
                | false =>
                  rw [hd] at hcell hs
                  rw [if_neg (by decide)] at hs
                  clear hd
                  have hw := graph_waits.calls A1 c1 l1 d (kk : Int) w.heap.size b7 _ (Kd.C_below HR1.out (below_step HB.out BW.out)) HC1.out HL.out OB2.out.cell OB2.out.arr HOK.out
                  obtain ⟨x, hx⟩ : ∃ x, x = waitsG d l1 (kk : Int) := ⟨_, rfl⟩
                  rw [← hx] at hw hs
                  clear hx
                  have HW := Aside0.mk hw
                  clear hw
                  by_cases hx0 : x < 0
                  · rw [if_pos hx0] at hs
                    have h1 := congrArg Prod.fst hs
                    have h2 := congrArg Prod.snd hs
                    simp only at h1 h2
                    subst h1
                    subst h2
                    clear hs
                    go_wp2_with (go_at_call 16; refine HW.out.mono ?_; rintro e w' ⟨rfl, bl⟩; have BV := Aside0.mk (below_step BW.out bl); clear bl)
                    go_meet
                    case rel => exact ⟨rfl, rfl, BV⟩
                  · rw [if_neg hx0] at hs
                    have SC := Aside0.mk hs
                    clear hs
                    go_wp2_with (go_at_call 16; refine HW.out.mono ?_; rintro e w' ⟨rfl, bl⟩; have BV := Aside0.mk (below_step BW.out bl); clear bl)
                    go_roundg (n - (kk + 1))
                    case measure => omega
                    case rel => exact ⟨kk + 1, kk, by omega, by omega, rfl, rfl, by go_num, SC, BV⟩
              · have hkz : ¬ (kk : Int) < (n : Int) := by omega
                have hs := SC.out
                rw [show n - kk = 0 by omega] at hs
                unfold scanG at hs
                have h1 := congrArg Prod.fst hs
                have h2 := congrArg Prod.snd hs
                simp only at h1 h2
                subst h1
                subst h2
                clear hs SC
                go_wp2
                go_meet
                case rel => exact ⟨rfl, rfl, BW⟩
          case rest =>
            obtain ⟨rfl, rfl, BW⟩ := hcut
            have hh := H.out
            dsimp only at hh
            clear H
            have OB2 := Aside0.mk (OB.out.below BW.out)
            have HO2 := Aside0.mk (Kd.R_below HO.out BW.out)
            have HB2 := Aside0.mk (below_step HB.out BW.out)
            clear OB HO HB BW
            by_cases hx0 : nx < 0
            · rw [if_pos hx0] at hh
              obtain ⟨c, hc, hh⟩ := Option.bind_eq_some_iff.1 hh
              obtain ⟨rfl, rfl, rfl⟩ : [] = r1 ∧ c = r2 ∧ 80 = r3 := by simpa using hh
              have HW := Aside0.mk (graph_round.calls k1 A1 c1 l1 d ls w.heap.size b7 c wc (Kd.C_below HR1.out HB2.out) HC1.out HL.out OB2.out.cell OB2.out.arr HOK.out hc)
              clear hc hh
              go_wp2_with (go_at_call 17; refine HW.out.mono ?_; rintro e w' ⟨v, rfl, hq, bl⟩; have HQ := Aside0.mk (Kd.Q_lower hq HB2.out.size); have BV := Aside0.mk (below_step HB2.out bl); clear bl hq)
              go_ret3
              exact ⟨_, _, rfl, Kd.R_nil _ _ _ _ _, Kd.Q_mono HQ.out (fun k_ _ h => by cases h), BV.out⟩
            · rw [if_neg hx0] at hh
              have hle : 0 ≤ nx ∧ nx < n := by
                rcases scanG_le d l1 n 0 (-1) nx ls SC.out with h | h <;> omega
              obtain ⟨q, rfl⟩ := Int.eq_ofNat_of_zero_le hle.1
              rw [Int.toNat_natCast] at hh
              have H := Aside0.mk hh
              have hq32 : (q : Int) < 32 := by omega
              have hcell := OB2.out.arr.cell (q : Int) (by omega) hq32
              rw [Int.toNat_natCast] at hcell
              have hfree := blk_frozen OB2.out.arr.1 q
              have OB3 := Aside0.mk (OB2.out.set q true)
              have HO3 := Aside0.mk (Kd.R_set HO2.out OB2.out.arr.1 (by decide) q (.bool true))
              have HB3 := Aside0.mk (below_set (j := q) (v := .bool true) HB2.out LB.out)
              have HN := Aside0.mk (show o.length < 32 by omega)
              clear hh hle SC
              go_upto_region 18 with (fail)
              generalize wc.setCell ⟨b7, q, none⟩ (.bool true) = w5 at OB3 HO3 HB3 ⊢
              go_wp2_with ((with_reducible refine gate_builtin (b := .append) (xs := #[.tmp 41, .tmp 43]) rfl ?_); at_builtin; refine Kd.R_append (Kd.int .i64) (w0 := w) w.heap.size rfl (.tmp 41) (.tmp 43) 24 3 (.int .i64 0) 8 rfl Try.underlying24 info3 rfl (by decide) (by omega) (.slice Ao o.length co) o q [.int .i64 q] (fun _ => True) (fun _ => False) rfl rfl ?aP (fun _ hk => hk.elim) ?aF HO3.out HB3.out (below_size HB3.out) ?aL ?_; (case aP => exact rfl); (case aF => exact (fun _ _ => trivial)); (case aL => have := HN.out; omega); intro v3 w3 ho hb hg hat; have HO4 := Aside0.mk ho; have HB4 := Aside0.mk hb; have OB4 := Aside0.mk (OB3.out.grown HO3.out hg); clear ho hb hg hat)
              go_roundg k1
              case measure => have := HK.out; omega
              case rel => exact ⟨_, _, H, ⟨by have := HK.out; omega⟩, HO4, HB4, OB4⟩
        · rw [if_neg hlt] at hh
          have hltz : ¬ (o.length : Int) < (n : Int) := by omega
          obtain ⟨rfl, rfl, rfl⟩ : o = r1 ∧ [] = r2 ∧ 0 = r3 := by simpa using hh
          go_wp2
          go_ret3
          exact ⟨_, _, rfl, Kd.R_mono HO.out (fun k_ _ h => by cases h), Kd.Q_nil _ _ _ _ _, HB.out⟩

/-! ### majordomolaw08_ints: function 11 -/
def majordomolaw08_ints.l0 : Nat → List Int → List Int → Int → Option (Bool)
  | 0, _, _, _ => none
  | k + 1, x0, x1, x5 => if x5 < (x0.length : Int) then (if 0 ≤ x5 then (if x5 < (x1.length : Int) then (if (rd x0 x5) = (rd x1 x5) then (majordomolaw08_ints.l0 k x0 x1 (wrap64 (x5 + 1))) else (some false)) else (none)) else (none)) else (some true)
def majordomolaw08_ints.f (k : Nat) (l0 : List Int) (l1 : List Int) : Option (Bool) := if (l0.length : Int) = (l1.length : Int) then (majordomolaw08_ints.l0 k l0 l1 0) else (some false)
theorem majordomolaw08_ints.mono_l : ∀ k, (∀ y0 y1 y2, LeO (majordomolaw08_ints.l0 k y0 y1 y2) (majordomolaw08_ints.l0 (k + 1) y0 y1 y2))
  | 0 => fun _ _ _ r h => by simp [majordomolaw08_ints.l0] at h
  | k + 1 => by
    have ih0 := majordomolaw08_ints.mono_l k
    · intro y0 y1 y2
      unfold majordomolaw08_ints.l0
      repeat' first
      | (with_reducible exact ih0 _ _ _)
      | (with_reducible exact LeO.refl _)
      | (with_reducible exact LeO.none _)
      | (with_reducible refine LeO.ite ?_ ?_)
      | (with_reducible refine LeO.bind ?_ (fun _ => ?_))
      | exact ih0 _ _ _
      | exact LeO.none _
      | refine LeO.ite ?_ ?_
      | refine LeO.bind ?_ (fun _ => ?_)
theorem majordomolaw08_ints.mono : ∀ a0 a1 k, LeO (majordomolaw08_ints.f k a0 a1) (majordomolaw08_ints.f (k + 1) a0 a1) := by
  intro a0 a1 k
  have ih0 := majordomolaw08_ints.mono_l k
  unfold majordomolaw08_ints.f
  repeat' first
      | (with_reducible exact ih0 _ _ _)
      | (with_reducible exact LeO.refl _)
      | (with_reducible exact LeO.none _)
      | (with_reducible refine LeO.ite ?_ ?_)
      | (with_reducible refine LeO.bind ?_ (fun _ => ?_))
      | exact ih0 _ _ _
      | exact LeO.none _
      | refine LeO.ite ?_ ?_
      | refine LeO.bind ?_ (fun _ => ?_)
set_option maxHeartbeats 8000000 in
set_option maxRecDepth 100000 in
theorem majordomolaw08_ints.calls (k : Nat) (A0 : Option Addr) (c0 : Nat) (l0 : List Int) (A1 : Option Addr) (c1 : Nat) (l1 : List Int) (r : Bool) (w : World) (hr0 : Kd.C (Kd.int .i64) w A0 l0.length l0) (hc0 : l0.length ≤ c0) (hr1 : Kd.C (Kd.int .i64) w A1 l1.length l1) (hc1 : l1.length ≤ c1) (h : majordomolaw08_ints.f k l0 l1 = some r) :
    Calls Try.prog 11 #[.slice A0 l0.length c0, .slice A1 l1.length c1] w fun e w' => e = .returned (.bool r) ∧ Drawn0 w w' := by
  have HR0 := Aside0.mk hr0
  have HC0 := Aside0.mk hc0
  clear hr0 hc0
  have HR1 := Aside0.mk hr1
  have HC1 := Aside0.mk hc1
  clear hr1 hc1
  have H : (if (l0.length : Int) = (l1.length : Int) then (majordomolaw08_ints.l0 k l0 l1 0) else (some false)) = some r := h
  clear h
  by_cases c3 : (l0.length : Int) = (l1.length : Int)
  · rw [if_pos c3] at H
    have c3b0 : ((l0.length : Int) == (l1.length : Int)) = true := beq_iff_eq.mpr c3
    have c3b1 : ((l0.length : Int) != (l1.length : Int)) = false := bne_eq_false_iff_eq.mpr c3
    have c3b2 : (l0.length == l1.length) = true := by first | simpa using c3 | (simp at c3 ⊢; omega)
    clear c3
    have H' := Aside0.mk H
    clear H
    go_enter Try.func11, Try.ntmps11
    go_wp2
    repeat (go_quiet (fail); try go_wp2)
    go_loopg [5] k (fun kq v5 w' => ∃ (x5_1 : Int), v5 = .int .i64 x5_1 ∧ Aside0 (majordomolaw08_ints.l0 kq l0 l1 x5_1 = some r) ∧ Aside0 (kq ≤ k) ∧ Drawn0 w w')
    case atStart => exact ⟨(0), (by first | rfl | (simp; done) | (simp [*]; done)), H', ⟨Nat.le_refl _⟩, by repeat (first | exact Drawn0.refl _ | apply Drawn0.step)⟩
    case round =>
      clear H'
      try clear c1
      try clear p2
      try clear c3
      try clear c3b0
      try clear c3b1
      try clear c3b2
      obtain ⟨x5_1, rfl, HA, HK1, ⟨m1, rfl⟩⟩ := hrel
      cases gk with
      | zero => exact absurd HA.out (by simp [majordomolaw08_ints.l0])
      | succ k1 =>
        have H := HA.out
        clear HA
        simp only [majordomolaw08_ints.l0] at H
        by_cases c4 : x5_1 < (l0.length : Int)
        · rw [if_pos c4] at H
          have c4b0 : decide (x5_1 < (l0.length : Int)) = true := decide_eq_true c4
          clear c4
          by_cases c5 : 0 ≤ x5_1
          · rw [if_pos c5] at H
            have c5b0 : decide (0 ≤ x5_1) = true := decide_eq_true c5
            clear c5
            by_cases c6 : x5_1 < (l1.length : Int)
            · rw [if_pos c6] at H
              have c6b0 : decide (x5_1 < (l1.length : Int)) = true := decide_eq_true c6
              clear c6
              by_cases c7 : (rd l0 x5_1) = (rd l1 x5_1)
              · rw [if_pos c7] at H
                have c7b0 : ((rd l0 x5_1) == (rd l1 x5_1)) = true := beq_iff_eq.mpr c7
                have c7b1 : ((rd l0 x5_1) != (rd l1 x5_1)) = false := bne_eq_false_iff_eq.mpr c7
                clear c7
                have H' := Aside0.mk H
                clear H
                have p107 : 0 ≤ (x5_1 : Int) := of_decide_eq_true (by first | (with_reducible assumption) | assumption)
                have q107 : x5_1 < (l0.length : Int) := of_decide_eq_true (by first | (with_reducible assumption) | assumption)
                obtain ⟨ad107, e107, hx107_0⟩ := Kd.at_int HR0.out x5_1 p107 q107
                cases e107
                replace p107 := eq_true p107
                replace q107 := eq_true q107
                have p108 : 0 ≤ (x5_1 : Int) := of_decide_eq_true (by first | (with_reducible assumption) | assumption)
                have q108 : x5_1 < (l1.length : Int) := of_decide_eq_true (by first | (with_reducible assumption) | assumption)
                obtain ⟨ad108, e108, hx108_0⟩ := Kd.at_int HR1.out x5_1 p108 q108
                cases e108
                replace p108 := eq_true p108
                replace q108 := eq_true q108
                go_wp2
                repeat (go_quiet (fail); try go_wp2)
                go_roundg k1
                case measure => have := HK1.out; omega
                case rel => exact ⟨(wrap64 (x5_1 + 1)), (by first | rfl | (simp; done) | (simp [*]; done)), H', ⟨by have := HK1.out; omega⟩, by repeat (first | exact Drawn0.refl _ | apply Drawn0.step)⟩
              · rw [if_neg c7] at H
                have c7b0 : ((rd l0 x5_1) == (rd l1 x5_1)) = false := beq_eq_false_iff_ne.mpr c7
                have c7b1 : ((rd l0 x5_1) != (rd l1 x5_1)) = true := bne_iff_ne.mpr c7
                obtain rfl := Option.some.inj H
                have p107 : 0 ≤ (x5_1 : Int) := of_decide_eq_true (by first | (with_reducible assumption) | assumption)
                have q107 : x5_1 < (l0.length : Int) := of_decide_eq_true (by first | (with_reducible assumption) | assumption)
                obtain ⟨ad107, e107, hx107_0⟩ := Kd.at_int HR0.out x5_1 p107 q107
                cases e107
                replace p107 := eq_true p107
                replace q107 := eq_true q107
                have p108 : 0 ≤ (x5_1 : Int) := of_decide_eq_true (by first | (with_reducible assumption) | assumption)
                have q108 : x5_1 < (l1.length : Int) := of_decide_eq_true (by first | (with_reducible assumption) | assumption)
                obtain ⟨ad108, e108, hx108_0⟩ := Kd.at_int HR1.out x5_1 p108 q108
                cases e108
                replace p108 := eq_true p108
                replace q108 := eq_true q108
                go_wp2
                repeat (go_quiet (fail); try go_wp2)
                go_ret
                exact ⟨by first | rfl | (simp; done) | (simp [*]; done), by repeat (first | exact Drawn0.refl _ | apply Drawn0.step)⟩
            · rw [if_neg c6] at H
              exact absurd H (by simp)
          · rw [if_neg c5] at H
            exact absurd H (by simp)
        · rw [if_neg c4] at H
          have c4b0 : decide (x5_1 < (l0.length : Int)) = false := decide_eq_false c4
          clear c4
          obtain rfl := Option.some.inj H
          go_wp2
          repeat (go_quiet (fail); try go_wp2)
          go_ret
          exact ⟨by first | rfl | (simp; done) | (simp [*]; done), by repeat (first | exact Drawn0.refl _ | apply Drawn0.step)⟩
  · rw [if_neg c3] at H
    have c3b0 : ((l0.length : Int) == (l1.length : Int)) = false := beq_eq_false_iff_ne.mpr c3
    have c3b1 : ((l0.length : Int) != (l1.length : Int)) = true := bne_iff_ne.mpr c3
    have c3b2 : (l0.length == l1.length) = false := by first | simpa using c3 | (simp at c3 ⊢; omega)
    obtain rfl := Option.some.inj H
    go_enter Try.func11, Try.ntmps11
    go_wp2
    repeat (go_quiet (fail); try go_wp2)
    go_ret
    exact ⟨by first | rfl | (simp; done) | (simp [*]; done), by repeat (first | exact Drawn0.refl _ | apply Drawn0.step)⟩

end Go.Proofs.Ytkcfjnacnabdaaa.PG
