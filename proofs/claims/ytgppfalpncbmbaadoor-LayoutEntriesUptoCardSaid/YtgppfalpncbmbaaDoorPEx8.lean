-- printed by wip/printx (a program of this session's, over the kit's print)
import Derived.Test.YtgppfalpncbmbaaDoorPEx0
import Derived.Test.YtgppfalpncbmbaaDoorPEx6
import Derived.Test.YtgppfalpncbmbaaDoorPEx7
namespace Go.Proofs.YtgppfalpncbmbaaDoor.PE
open Go.RowKit Go.Proofs.YtgppfalpncbmbaaDoorW.PrintWords Go.Proofs.YtgppfalpncbmbaaDoorW.PrintLast Go.Proofs.YtgppfalpncbmbaaDoorW.PrintMore
attribute [local go_sem] max2_int min2_int max_two min_two max_three min_three max_four min_four Go.Proofs.YtgppfalpncbmbaaDoor.PxMore.isSome_setCell   -- for this text's walks alone
set_option linter.unusedVariables false
set_option linter.unusedSimpArgs false

/-! ### majordomoref03_PutEntries: function 23 -/

theorem ww (x y : Int) (h : x = y) (h0 : 0 ≤ y) (h1 : y < 9223372036854775808) : wrap64 x = y := by subst h; unfold wrap64; omega
theorem sz (s : ByteArray) : s.size = s.data.toList.length := by rw [data_length]
theorem tl (s : ByteArray) : s.toList = s.data.toList := Lib.toList_data s
theorem bt_drop {s : ByteArray} {p : Nat} {b : UInt8} {r : List UInt8} (h : s.data.toList.drop p = b :: r) : bt s (p : Int) = (b.toNat : Int) := by
  have hlt : p < s.data.toList.length := by
    have := congrArg List.length h
    simp only [List.length_drop, List.length_cons] at this
    omega
  have hb : s.data.toList[p]? = some b := by
    have := congrArg (fun l => l[0]?) h
    simpa using this
  obtain ⟨⟨l⟩⟩ := s
  unfold bt
  rw [dif_pos (by simpa [ByteArray.size] using hlt)]
  simp only [Int.toNat_natCast]
  rw [List.getElem?_eq_getElem hlt, Option.some.injEq] at hb
  exact congrArg (fun b : UInt8 => (b.toNat : Int)) hb

theorem letter_int (b : UInt8) : Lay.letter b = decide ((65 ≤ (b.toNat : Int) ∧ (b.toNat : Int) ≤ 90) ∨ (97 ≤ (b.toNat : Int) ∧ (b.toNat : Int) ≤ 122) ∨ (48 ≤ (b.toNat : Int) ∧ (b.toNat : Int) ≤ 57) ∨ (b.toNat : Int) = 46 ∨ (b.toNat : Int) = 95 ∨ (b.toNat : Int) = 45) := by
  have h : ∀ n : Fin 256, Lay.letter (UInt8.ofNat n.1) = decide ((65 ≤ (n.1 : Int) ∧ (n.1 : Int) ≤ 90) ∨ (97 ≤ (n.1 : Int) ∧ (n.1 : Int) ≤ 122) ∨ (48 ≤ (n.1 : Int) ∧ (n.1 : Int) ≤ 57) ∨ (n.1 : Int) = 46 ∨ (n.1 : Int) = 95 ∨ (n.1 : Int) = 45) := by decide +kernel
  have := h ⟨b.toNat, b.toNat_lt⟩
  simpa using this
def nameEnd (l : List UInt8) : Bool := !l.isEmpty && decide (l.length ≤ 28) && l != [46] && l != [46, 46]
theorem nameOk_end (l : List UInt8) : Lay.nameOk l = (l.all Lay.letter && nameEnd l) := by unfold Lay.nameOk nameEnd; rw [Bool.and_comm]
set_option maxHeartbeats 4000000 in
theorem ev_refName_l0 (a : ByteArray) (hz : a.size ≤ 4611686018427387904) : ∀ (d i : Nat), i + d = a.size →
    Ev (fun k => majordomoref03_Name.l0 k a (i : Int)) ((a.data.toList.drop i).all Lay.letter && nameEnd a.data.toList) := by
  intro d
  induction d with
  | zero =>
    intro i hi
    have hd : a.data.toList.drop i = [] := by rw [List.drop_eq_nil_iff, ← sz]; omega
    rw [hd]
    refine Ev.step (f := fun _ => some (nameEnd a.data.toList)) (fun k => ?_) (Ev.now _)
    simp only [majordomoref03_Name.l0]
    rw [if_neg (by omega), tl, sz]
    unfold nameEnd
    cases hl : a.data.toList with
    | nil => rfl
    | cons x r =>
      rw [if_pos (by simp only [List.length_cons]; omega)]
      by_cases h1 : ((x :: r).length : Int) ≤ 28
      · rw [if_pos h1, decide_eq_true (show (x :: r).length ≤ 28 by omega)]
        by_cases h2 : x :: r = [46]
        · rw [if_pos h2, h2]; rfl
        · rw [if_neg h2, show ((x :: r) != [46]) = true by simpa using h2]; rfl
      · rw [if_neg h1, decide_eq_false (show ¬ (x :: r).length ≤ 28 by omega)]; rfl
  | succ d ih =>
    intro i hi
    cases hd : a.data.toList.drop i with
    | nil => rw [List.drop_eq_nil_iff, ← sz] at hd; omega
    | cons b r =>
      have hb := bt_drop hd
      have hl := letter_int b
      have hr : a.data.toList.drop (i + 1) = r := by rw [← List.drop_drop, hd]; rfl
      have ih' := ih (i + 1) (by omega)
      rw [hr] at ih'
      have hw : wrap64 ((i : Int) + 1) = ((i + 1 : Nat) : Int) := ww _ _ (by omega) (by omega) (by omega)
      rw [List.all_cons]
      by_cases hx : Lay.letter b = true
      · rw [hx]
        rw [hx] at hl
        have hl' := of_decide_eq_true hl.symm
        clear hl
        refine Ev.step (fun k => ?_) ih'
        simp only [majordomoref03_Name.l0]
        rw [hw, if_pos (by omega), if_pos (by omega), hb]
        clear hw
        generalize majordomoref03_Name.l0 k a ((i + 1 : Nat) : Int) = R
        generalize (b.toNat : Int) = c at hl'
        repeat' split
        all_goals first | rfl | (exfalso; omega)
      · have hx' : Lay.letter b = false := by simpa using hx
        rw [hx']
        rw [hx'] at hl
        have hl' := of_decide_eq_false hl.symm
        clear hl
        refine Ev.step (f := fun _ => some false) (fun k => ?_) (Ev.now _)
        simp only [majordomoref03_Name.l0]
        rw [hw, if_pos (by omega), if_pos (by omega), hb]
        clear hw
        generalize majordomoref03_Name.l0 k a ((i + 1 : Nat) : Int) = R
        generalize (b.toNat : Int) = c at hl'
        repeat' split
        all_goals first | rfl | (exfalso; omega)
theorem ev_refName (a : ByteArray) (hz : a.size ≤ 4611686018427387904) : Ev (fun k => majordomoref03_Name.f k a) (Lay.nameOk a.data.toList) := by
  have := ev_refName_l0 a hz a.size 0 (by omega)
  rw [nameOk_end]
  exact this

theorem ev_pad (n : Nat) (hn : n ≤ 1000) : ∀ (d : Nat) (x : List Int), x.length + d = n → Ev (fun k => majordomoref03_pad.f k x (n : Int)) (x ++ List.replicate d 0) := by
  intro d
  induction d with
  | zero =>
    intro x hx
    unfold majordomoref03_pad.f
    refine Ev.step (f := fun _ => some (x ++ List.replicate 0 0)) (fun k => ?_) (Ev.now _)
    simp only [majordomoref03_pad.l0]
    rw [if_neg (by omega), List.replicate_zero, List.append_nil]
  | succ d ih =>
    intro x hx
    have h := ih (x ++ [0]) (by rw [List.length_append]; simp only [List.length_singleton]; omega)
    unfold majordomoref03_pad.f at h ⊢
    rw [List.append_assoc, show [(0 : Int)] ++ List.replicate d 0 = List.replicate (d + 1) 0 from rfl] at h
    refine Ev.step (fun k => ?_) h
    simp only [majordomoref03_pad.l0]
    rw [if_pos (by omega), if_pos (by omega)]

def entOkR (l : List S47) (j : Nat) : Bool :=
  decide (1 ≤ (rd_T47 l j).f0) && decide ((rd_T47 l j).f0 < 64) && Lay.nameOk (rd_T47 l j).f1.data.toList && (decide (j = 0) || Op.bytesLess (rd_T47 l ((j : Int) - 1)).f1.toList (rd_T47 l j).f1.toList)
/-- (A text that is no shorter than memory is not asked for.) -/
def majordomoref03_PutEntries.f (l0 : List S47) : Option (List Int × Int) :=
  if l0.all (fun x => decide (x.f1.size ≤ 4611686018427387904)) then (if l0.length > 16 then some ([], 5) else if (List.range l0.length).all (entOkR l0) then some (l0.flatMap entB, 0) else some ([], 1)) else none
theorem okR_name {l : List S47} {j : Nat} (h : entOkR l j = true) : (rd_T47 l (j : Int)).f1.size ≤ 28 ∧ 1 ≤ (rd_T47 l (j : Int)).f0 ∧ (rd_T47 l (j : Int)).f0 < 64 := by
  unfold entOkR at h
  simp only [Bool.and_eq_true, decide_eq_true_eq] at h
  obtain ⟨⟨⟨h1, h2⟩, h3⟩, _⟩ := h
  unfold Lay.nameOk at h3
  simp only [Bool.and_eq_true, decide_eq_true_eq] at h3
  refine ⟨?_, h1, h2⟩
  rw [sz]
  exact h3.1.1.1.2
theorem entsR_len {l : List S47} : ∀ (j : Nat), j ≤ l.length → (∀ k, k < j → entOkR l k = true) → ((l.take j).flatMap entB).length = 32 * j := by
  intro j
  induction j with
  | zero => intro _ _; rfl
  | succ j ih =>
    intro hj hk
    have hlt : j < l.length := by omega
    rw [List.take_add_one, List.getElem?_eq_getElem hlt, List.flatMap_append, List.length_append, ih (by omega) (fun k h => hk k (by omega))]
    have hs := (okR_name (hk j (by omega))).1
    rw [rd_get47 hlt] at hs
    simp only [Option.toList_some, List.flatMap_cons, List.flatMap_nil, List.append_nil]
    rw [entB_len (by omega)]
    omega
theorem two_cells {w : World} {b : Nat} {q0 q1 : Int} {t : TypeId} (h : w.heap[b]? = some (.cells #[.int .u8 q0, .int .u8 q1] t (0, 0))) (i : Nat) (hi : i < 2) : w.cell? ((⟨b, 0, none⟩ : Addr).add i) = some (.int .u8 ([q0, q1].getD i 0)) := by
  rw [Addr.add_lit, Nat.zero_add]
  match i, hi with
  | 0, _ => simp [World.cell?, h]
  | 1, _ => simp [World.cell?, h]
structure FSt (w wr : World) (l : List S47) (v : Value) (j : Nat) : Prop where
  row : Kd.R (Kd.int .u8) 5 wr w.heap.size (fun _ => True) v ((l.take j).flatMap entB)
  bel : Below w.heap.size w wr
  le : j ≤ l.length
  ok : ∀ k, k < j → entOkR l k = true
theorem FSt.later {w wr w2 : World} {l : List S47} {v : Value} {j : Nat} (h : FSt w wr l v j) (hb : Below wr.heap.size wr w2) : FSt w w2 l v j :=
  ⟨Kd.R_below h.row hb, below_step h.bel hb, h.le, h.ok⟩
set_option maxHeartbeats 8000000 in
set_option maxRecDepth 100000 in
theorem majordomoref03_PutEntries.calls (A0 : Option Addr) (c0 : Nat) (l0 : List S47) (r1 : List Int) (r2 : Int) (w : World) (hr0 : Kd.C k47 w A0 l0.length l0) (hc0 : l0.length ≤ c0) (h : majordomoref03_PutEntries.f l0 = some (r1, r2)) :
    Calls Tryd.prog 23 #[.slice A0 l0.length c0] w fun e w' => ∃ v0_ : Value, e = .returned (.tuple #[v0_, .int .i64 r2]) ∧ Kd.R (Kd.int .u8) 5 w' w.heap.size (fun _ => True) v0_ r1 ∧ Below w.heap.size w w' := by
  have hu := Tryd.underlying47
  have HR := Aside0.mk hr0
  have HC := Aside0.mk hc0
  clear hr0 hc0
  unfold majordomoref03_PutEntries.f at h
  by_cases hall : l0.all (fun x => decide (x.f1.size ≤ 4611686018427387904)) = true
  · rw [if_pos hall] at h
    by_cases h16 : l0.length > 16
    · rw [if_pos h16] at h
      simp only [Option.some.injEq, Prod.mk.injEq] at h
      obtain ⟨rfl, rfl⟩ := h
      have hgt : 16 < (l0.length : Int) := by omega
      clear hall
      go_enter Tryd.func23, Tryd.ntmps23
      go_wp2
      refine bodyPost_ret (results_tmp2 rfl _ _ _) rfl ?_
      exact ⟨_, rfl, Kd.R_nil _ _ _ _ _, by repeat (first | exact Below.refl _ _ | apply below_alloc | apply pw_below_drewN | apply below_drew1)⟩
    rw [if_neg h16] at h
    have hn : l0.length ≤ 16 := by omega
    have hng : ¬ 16 < (l0.length : Int) := by omega
    have H := Aside0.mk h
    have HALL := Aside0.mk hall
    clear h hall
    obtain ⟨n, hln⟩ : ∃ n, l0.length = n := ⟨_, rfl⟩
    have F0 := Aside0.mk (show FSt w w l0 (.slice none 0 0) 0 from ⟨Kd.R_nil _ _ _ _ _, Below.refl _ _, Nat.zero_le _, fun k hk => by omega⟩)
    rw [hln] at hn hng ⊢
    go_enter Tryd.func23, Tryd.ntmps23
    go_wp2
    go_loopw [4, 5] (fun v i wr => ∃ j : Nat, i = .int .i64 j ∧ FSt w wr l0 v j) (fun _ i _ => n - (Lib.intOf i).toNat)
    case atStart => exact ⟨0, rfl, F0.out⟩
    case round =>
      obtain ⟨j, rfl, hE⟩ := hrel
      have hle := hE.le
      by_cases hlt : j < n
      · have hlt' : (j : Int) < (n : Int) := by omega
        obtain ⟨ad, ead, hx0, hx1⟩ := at_T47 (Kd.C_below HR.out hE.bel) (j : Int) (by omega) (by omega)
        subst ead
        rw [Int.toNat_natCast] at hx0 hx1
        obtain ⟨x, hx⟩ : ∃ x, rd_T47 l0 (j : Int) = x := ⟨_, rfl⟩
        rw [hx] at hx0 hx1
        have E1 := Aside0.mk hE
        have hxm : x ∈ l0 := by rw [← hx, rd_get47 (by omega)]; exact List.getElem_mem _
        have hxs : x.f1.size ≤ 4611686018427387904 := of_decide_eq_true (List.all_eq_true.1 HALL.out x hxm)
        obtain ⟨kn, hkn⟩ := Ev.rounds (ev_refName x.f1 hxs)
        have HN := Aside0.mk hkn
        clear hE F0 hkn hxs hxm
        go_wp2
        by_cases c1 : x.f0 < 1
        · have c1d : decide (x.f0 < 1) = true := decide_eq_true c1
          refine wp_region_grow (fun a b => Below a.heap.size a b) (fun | 20 => some (fun v _ => v = undef) | _ => none) (by kernel_rfl) (by kernel_rfl) (fun _ => Below.refl _ _) (fun _ _ _ => below_step) ?_ ?_
          · intro i V hV v w1 w2 hr hv
            split at hV
            · cases hV; exact hv
            · cases hV
          simp only [List.zipIdx_cons, List.zipIdx_nil, Nat.zero_add, Nat.reduceAdd]
          iterate 20 (first | (refine grow_det ?_ rfl (fun w' => ?_) ?_; rotate_left 1; (unfold Runs; go_simp; rfl); try simp only [Act.put, List.setIfInBounds_toArray, List.set_cons_zero, List.set_cons_succ]) | (refine grow_read ?_ rfl (fun w' hr _ => ?_) ?_; rotate_left 1; (have g0 := (hr.cell (World.block_lt_of_cell? wr.drew _ hx0)).trans hx0; have g1 := (hr.cell (World.block_lt_of_cell? wr.drew _ hx1)).trans hx1;  unfold Runs; go_simp; rfl); try simp only [Act.put, List.setIfInBounds_toArray, List.set_cons_zero, List.set_cons_succ]))
          refine grow_pred _ rfl (fun w' hr _ => ?_) (fun v => ?_)
          · unfold Gives
            go_simp
            exact Below.refl _ _
          try simp only [Act.put, List.setIfInBounds_toArray, List.set_cons_zero, List.set_cons_succ]
          iterate 20 (first | (refine grow_det ?_ rfl (fun w' => ?_) ?_; rotate_left 1; (unfold Runs; go_simp; rfl); try simp only [Act.put, List.setIfInBounds_toArray, List.set_cons_zero, List.set_cons_succ]) | (refine grow_read ?_ rfl (fun w' hr _ => ?_) ?_; rotate_left 1; (have g0 := (hr.cell (World.block_lt_of_cell? wr.drew _ hx0)).trans hx0; have g1 := (hr.cell (World.block_lt_of_cell? wr.drew _ hx1)).trans hx1;  unfold Runs; go_simp; rfl); try simp only [Act.put, List.setIfInBounds_toArray, List.set_cons_zero, List.set_cons_succ]))
          refine grow_end (fun w2 hr hf => ?_)
          clear hf
          have hbad : entOkR l0 j = false := by unfold entOkR; rw [hx, decide_eq_false (show ¬ 1 ≤ x.f0 by omega)]; rfl
          have h := H.out
          rw [if_neg (fun e => by have := List.all_eq_true.1 e j (by rw [List.mem_range]; omega); rw [hbad] at this; cases this)] at h
          simp only [Option.some.injEq, Prod.mk.injEq] at h
          obtain ⟨rfl, rfl⟩ := h
          go_wp2
          refine bodyPost_ret (results_tmp2 rfl _ _ _) rfl ?_
          exact ⟨_, rfl, Kd.R_nil _ _ _ _ _, below_step E1.out.bel (below_step (below_drew1 (Below.refl _ _)) hr)⟩
        have c1d : decide (x.f0 < 1) = false := decide_eq_false c1
        by_cases c2 : x.f0 ≥ 64
        · have c2d : decide (64 ≤ x.f0) = true := decide_eq_true c2
          refine wp_region_grow (fun a b => Below a.heap.size a b) (fun | 20 => some (fun v _ => v = undef) | _ => none) (by kernel_rfl) (by kernel_rfl) (fun _ => Below.refl _ _) (fun _ _ _ => below_step) ?_ ?_
          · intro i V hV v w1 w2 hr hv
            split at hV
            · cases hV; exact hv
            · cases hV
          simp only [List.zipIdx_cons, List.zipIdx_nil, Nat.zero_add, Nat.reduceAdd]
          iterate 20 (first | (refine grow_det ?_ rfl (fun w' => ?_) ?_; rotate_left 1; (unfold Runs; go_simp; rfl); try simp only [Act.put, List.setIfInBounds_toArray, List.set_cons_zero, List.set_cons_succ]) | (refine grow_read ?_ rfl (fun w' hr _ => ?_) ?_; rotate_left 1; (have g0 := (hr.cell (World.block_lt_of_cell? wr.drew _ hx0)).trans hx0; have g1 := (hr.cell (World.block_lt_of_cell? wr.drew _ hx1)).trans hx1;  unfold Runs; go_simp; rfl); try simp only [Act.put, List.setIfInBounds_toArray, List.set_cons_zero, List.set_cons_succ]))
          refine grow_pred _ rfl (fun w' hr _ => ?_) (fun v => ?_)
          · unfold Gives
            go_simp
            exact Below.refl _ _
          try simp only [Act.put, List.setIfInBounds_toArray, List.set_cons_zero, List.set_cons_succ]
          iterate 20 (first | (refine grow_det ?_ rfl (fun w' => ?_) ?_; rotate_left 1; (unfold Runs; go_simp; rfl); try simp only [Act.put, List.setIfInBounds_toArray, List.set_cons_zero, List.set_cons_succ]) | (refine grow_read ?_ rfl (fun w' hr _ => ?_) ?_; rotate_left 1; (have g0 := (hr.cell (World.block_lt_of_cell? wr.drew _ hx0)).trans hx0; have g1 := (hr.cell (World.block_lt_of_cell? wr.drew _ hx1)).trans hx1;  unfold Runs; go_simp; rfl); try simp only [Act.put, List.setIfInBounds_toArray, List.set_cons_zero, List.set_cons_succ]))
          refine grow_end (fun w2 hr hf => ?_)
          clear hf
          have hbad : entOkR l0 j = false := by unfold entOkR; rw [hx, decide_eq_false (show ¬ x.f0 < 64 by omega), Bool.and_false]; rfl
          have h := H.out
          rw [if_neg (fun e => by have := List.all_eq_true.1 e j (by rw [List.mem_range]; omega); rw [hbad] at this; cases this)] at h
          simp only [Option.some.injEq, Prod.mk.injEq] at h
          obtain ⟨rfl, rfl⟩ := h
          go_wp2
          refine bodyPost_ret (results_tmp2 rfl _ _ _) rfl ?_
          exact ⟨_, rfl, Kd.R_nil _ _ _ _ _, below_step E1.out.bel (below_step (below_drew1 (Below.refl _ _)) hr)⟩
        have c2d : decide (64 ≤ x.f0) = false := decide_eq_false c2
        cases hnb : Lay.nameOk x.f1.data.toList with
        | false =>
          rw [hnb] at HN
          refine wp_region_grow (fun a b => Below a.heap.size a b) (fun | 20 => some (fun v _ => v = .bool false) | _ => none) (by kernel_rfl) (by kernel_rfl) (fun _ => Below.refl _ _) (fun _ _ _ => below_step) ?_ ?_
          · intro i V hV v w1 w2 hr hv
            split at hV
            · cases hV; exact hv
            · cases hV
          simp only [List.zipIdx_cons, List.zipIdx_nil, Nat.zero_add, Nat.reduceAdd]
          iterate 20 (first | (refine grow_det ?_ rfl (fun w' => ?_) ?_; rotate_left 1; (unfold Runs; go_simp; rfl); try simp only [Act.put, List.setIfInBounds_toArray, List.set_cons_zero, List.set_cons_succ]) | (refine grow_read ?_ rfl (fun w' hr _ => ?_) ?_; rotate_left 1; (have g0 := (hr.cell (World.block_lt_of_cell? wr.drew _ hx0)).trans hx0; have g1 := (hr.cell (World.block_lt_of_cell? wr.drew _ hx1)).trans hx1;  unfold Runs; go_simp; rfl); try simp only [Act.put, List.setIfInBounds_toArray, List.set_cons_zero, List.set_cons_succ]))
          refine grow_pred _ rfl (fun w' hr _ => ?_) (fun v => ?_)
          · unfold Gives gives
            go_simp
            refine (majordomoref03_Name.calls kn x.f1 false w' HN.out).mono ?_
            rintro e w'' ⟨rfl, bel⟩
            replace bel : Below w'.heap.size w' w'' := by first | exact bel | exact bel.below
            first | exact ⟨_, rfl, bel, rfl⟩ | exact ⟨rfl, bel⟩ | exact bel | (simp; exact bel)
          try simp only [Act.put, List.setIfInBounds_toArray, List.set_cons_zero, List.set_cons_succ]
          refine grow_read (.bool (!false)) rfl (fun w' hr hf => ?_) ?_
          · have h1 := hf 20 (by kernel_rfl)
            rw [upd_self] at h1
            subst h1
            unfold Runs
            go_simp
          try simp only [Act.put, List.setIfInBounds_toArray, List.set_cons_zero, List.set_cons_succ]
          iterate 19 (first | (refine grow_det ?_ rfl (fun w' => ?_) ?_; rotate_left 1; (unfold Runs; go_simp; rfl); try simp only [Act.put, List.setIfInBounds_toArray, List.set_cons_zero, List.set_cons_succ]) | (refine grow_read ?_ rfl (fun w' hr _ => ?_) ?_; rotate_left 1; (have g0 := (hr.cell (World.block_lt_of_cell? wr.drew _ hx0)).trans hx0; have g1 := (hr.cell (World.block_lt_of_cell? wr.drew _ hx1)).trans hx1;  unfold Runs; go_simp; rfl); try simp only [Act.put, List.setIfInBounds_toArray, List.set_cons_zero, List.set_cons_succ]))
          refine grow_end (fun w2 hr hf => ?_)
          clear hf
          have hbad : entOkR l0 j = false := by unfold entOkR; rw [hx, hnb, Bool.and_false]; rfl
          have h := H.out
          rw [if_neg (fun e => by have := List.all_eq_true.1 e j (by rw [List.mem_range]; omega); rw [hbad] at this; cases this)] at h
          simp only [Option.some.injEq, Prod.mk.injEq] at h
          obtain ⟨rfl, rfl⟩ := h
          go_wp2
          refine bodyPost_ret (results_tmp2 rfl _ _ _) rfl ?_
          exact ⟨_, rfl, Kd.R_nil _ _ _ _ _, below_step E1.out.bel (below_step (below_drew1 (Below.refl _ _)) hr)⟩
        | true =>
          rw [hnb] at HN
          by_cases cj : 0 < (j : Int)
          · have cjd : decide (0 < (j : Int)) = true := decide_eq_true cj
            have cjn : (0 < j) = True := eq_true (by omega)
            have hwj : IntKind.i64.wrap ((j : Int) - 1) = ((j - 1 : Nat) : Int) := by
              unfold IntKind.wrap
              simp [IntKind.bits, IntKind.signed]
              omega
            have hj1n : (j - 1 < n) = True := eq_true (by omega)
            obtain ⟨adp, ep, hp0, hp1⟩ := at_T47 (Kd.C_below HR.out E1.out.bel) ((j : Int) - 1) (by omega) (by omega)
            obtain rfl := Option.some.inj ep
            obtain ⟨y, hy⟩ : ∃ y, rd_T47 l0 ((j : Int) - 1) = y := ⟨_, rfl⟩
            rw [hy] at hp0 hp1
            clear hp0
            have hjn : ((j : Int) - 1).toNat = j - 1 := by omega
            rw [hjn] at hp1
            cases hcmp : Op.bytesLess y.f1.toList x.f1.toList with
            | false =>
              have hle1 : (Op.bytesLess x.f1.toList y.f1.toList || x.f1.toList == y.f1.toList) = true := by rw [leq_not, hcmp]; rfl
              refine wp_region_grow (fun a b => Below a.heap.size a b) (fun | 20 => some (fun v _ => v = .bool true) | _ => none) (by kernel_rfl) (by kernel_rfl) (fun _ => Below.refl _ _) (fun _ _ _ => below_step) ?_ ?_
              · intro i V hV v w1 w2 hr hv
                split at hV
                · cases hV; exact hv
                · cases hV
              simp only [List.zipIdx_cons, List.zipIdx_nil, Nat.zero_add, Nat.reduceAdd]
              iterate 20 (first | (refine grow_det ?_ rfl (fun w' => ?_) ?_; rotate_left 1; (unfold Runs; go_simp; rfl); try simp only [Act.put, List.setIfInBounds_toArray, List.set_cons_zero, List.set_cons_succ]) | (refine grow_read ?_ rfl (fun w' hr _ => ?_) ?_; rotate_left 1; (have g0 := (hr.cell (World.block_lt_of_cell? wr.drew _ hx0)).trans hx0; have g1 := (hr.cell (World.block_lt_of_cell? wr.drew _ hx1)).trans hx1; have g2 := (hr.cell (World.block_lt_of_cell? wr.drew _ hp1)).trans hp1;  unfold Runs; go_simp; rfl); try simp only [Act.put, List.setIfInBounds_toArray, List.set_cons_zero, List.set_cons_succ]))
              refine grow_pred _ rfl (fun w' hr _ => ?_) (fun v => ?_)
              · unfold Gives gives
                go_simp
                refine (majordomoref03_Name.calls kn x.f1 true w' HN.out).mono ?_
                rintro e w'' ⟨rfl, bel⟩
                replace bel : Below w'.heap.size w' w'' := by first | exact bel | exact bel.below
                first | exact ⟨_, rfl, bel, rfl⟩ | exact ⟨rfl, bel⟩ | exact bel | (simp; exact bel)
              try simp only [Act.put, List.setIfInBounds_toArray, List.set_cons_zero, List.set_cons_succ]
              refine grow_read (.bool (!true)) rfl (fun w' hr hf => ?_) ?_
              · have h1 := hf 20 (by kernel_rfl)
                rw [upd_self] at h1
                subst h1
                unfold Runs
                go_simp
              try simp only [Act.put, List.setIfInBounds_toArray, List.set_cons_zero, List.set_cons_succ]
              iterate 19 (first | (refine grow_det ?_ rfl (fun w' => ?_) ?_; rotate_left 1; (unfold Runs; go_simp; rfl); try simp only [Act.put, List.setIfInBounds_toArray, List.set_cons_zero, List.set_cons_succ]) | (refine grow_read ?_ rfl (fun w' hr _ => ?_) ?_; rotate_left 1; (have g0 := (hr.cell (World.block_lt_of_cell? wr.drew _ hx0)).trans hx0; have g1 := (hr.cell (World.block_lt_of_cell? wr.drew _ hx1)).trans hx1; have g2 := (hr.cell (World.block_lt_of_cell? wr.drew _ hp1)).trans hp1;  unfold Runs; go_simp; rfl); try simp only [Act.put, List.setIfInBounds_toArray, List.set_cons_zero, List.set_cons_succ]))
              refine grow_end (fun w2 hr hf => ?_)
              clear hf
              have hbad : entOkR l0 j = false := by unfold entOkR; rw [hx, hy, hcmp, decide_eq_false (show ¬ j = 0 by omega), Bool.or_self, Bool.and_false]
              have h := H.out
              rw [if_neg (fun e => by have := List.all_eq_true.1 e j (by rw [List.mem_range]; omega); rw [hbad] at this; cases this)] at h
              simp only [Option.some.injEq, Prod.mk.injEq] at h
              obtain ⟨rfl, rfl⟩ := h
              go_wp2
              refine bodyPost_ret (results_tmp2 rfl _ _ _) rfl ?_
              exact ⟨_, rfl, Kd.R_nil _ _ _ _ _, below_step E1.out.bel (below_step (below_drew1 (Below.refl _ _)) hr)⟩
            | true =>
              have hle1 : (Op.bytesLess x.f1.toList y.f1.toList || x.f1.toList == y.f1.toList) = false := by rw [leq_not, hcmp]; rfl
              refine wp_region_grow (fun a b => Below a.heap.size a b) (fun | 20 => some (fun v _ => v = .bool true) | _ => none) (by kernel_rfl) (by kernel_rfl) (fun _ => Below.refl _ _) (fun _ _ _ => below_step) ?_ ?_
              · intro i V hV v w1 w2 hr hv
                split at hV
                · cases hV; exact hv
                · cases hV
              simp only [List.zipIdx_cons, List.zipIdx_nil, Nat.zero_add, Nat.reduceAdd]
              iterate 20 (first | (refine grow_det ?_ rfl (fun w' => ?_) ?_; rotate_left 1; (unfold Runs; go_simp; rfl); try simp only [Act.put, List.setIfInBounds_toArray, List.set_cons_zero, List.set_cons_succ]) | (refine grow_read ?_ rfl (fun w' hr _ => ?_) ?_; rotate_left 1; (have g0 := (hr.cell (World.block_lt_of_cell? wr.drew _ hx0)).trans hx0; have g1 := (hr.cell (World.block_lt_of_cell? wr.drew _ hx1)).trans hx1; have g2 := (hr.cell (World.block_lt_of_cell? wr.drew _ hp1)).trans hp1;  unfold Runs; go_simp; rfl); try simp only [Act.put, List.setIfInBounds_toArray, List.set_cons_zero, List.set_cons_succ]))
              refine grow_pred _ rfl (fun w' hr _ => ?_) (fun v => ?_)
              · unfold Gives gives
                go_simp
                refine (majordomoref03_Name.calls kn x.f1 true w' HN.out).mono ?_
                rintro e w'' ⟨rfl, bel⟩
                replace bel : Below w'.heap.size w' w'' := by first | exact bel | exact bel.below
                first | exact ⟨_, rfl, bel, rfl⟩ | exact ⟨rfl, bel⟩ | exact bel | (simp; exact bel)
              try simp only [Act.put, List.setIfInBounds_toArray, List.set_cons_zero, List.set_cons_succ]
              refine grow_read (.bool (!true)) rfl (fun w' hr hf => ?_) ?_
              · have h1 := hf 20 (by kernel_rfl)
                rw [upd_self] at h1
                subst h1
                unfold Runs
                go_simp
              try simp only [Act.put, List.setIfInBounds_toArray, List.set_cons_zero, List.set_cons_succ]
              iterate 19 (first | (refine grow_det ?_ rfl (fun w' => ?_) ?_; rotate_left 1; (unfold Runs; go_simp; rfl); try simp only [Act.put, List.setIfInBounds_toArray, List.set_cons_zero, List.set_cons_succ]) | (refine grow_read ?_ rfl (fun w' hr _ => ?_) ?_; rotate_left 1; (have g0 := (hr.cell (World.block_lt_of_cell? wr.drew _ hx0)).trans hx0; have g1 := (hr.cell (World.block_lt_of_cell? wr.drew _ hx1)).trans hx1; have g2 := (hr.cell (World.block_lt_of_cell? wr.drew _ hp1)).trans hp1;  unfold Runs; go_simp; rfl); try simp only [Act.put, List.setIfInBounds_toArray, List.set_cons_zero, List.set_cons_succ]))
              refine grow_end (fun w2 hr hf => ?_)
              clear hf
              clear hp1
              have hok : entOkR l0 j = true := by unfold entOkR; rw [hx, hy, hcmp, hnb, decide_eq_true (show 1 ≤ x.f0 by omega), decide_eq_true (show x.f0 < 64 by omega), Bool.or_true]; rfl
              have E2 := Aside0.mk (E1.out.later (below_step (below_drew1 (Below.refl _ _)) hr))
              have hy0 := (hr.cell (World.block_lt_of_cell? wr.drew _ hx0)).trans hx0
              have hy1 := (hr.cell (World.block_lt_of_cell? wr.drew _ hx1)).trans hx1
              clear hr hx0 hx1 E1
              go_wp2
              have hx0 := hy0
              have hx1 := hy1
              clear hy0 hy1
              have hs := okR_name hok
              rw [hx] at hs
              obtain ⟨q0, hq0⟩ : ∃ q, x.f0 % 256 = q := ⟨_, rfl⟩
              obtain ⟨q1, hq1⟩ : ∃ q, (x.f1.size : Int) % 256 = q := ⟨_, rfl⟩
              refine wp_region_growU 15 (fun a b => Below a.heap.size a b) (fun | 14 => some (fun v w' => ∃ b, v = .slice (some ⟨b, 0, none⟩) 2 2 ∧ w'.heap[b]? = some (.cells #[.int .u8 q0, .int .u8 q1] 5 (0, 0))) | _ => none) (by kernel_rfl) (by kernel_rfl) (by kernel_rfl) (by kernel_rfl) (by kernel_rfl) (fun _ => Below.refl _ _) (fun _ _ _ => below_step) ?_ ?_
              · intro i V hV v w1 w2 hr hv
                split at hV
                · cases hV
                  obtain ⟨b, h1, h2⟩ := hv
                  exact ⟨b, h1, (hr.block b (Array.getElem?_eq_some_iff.1 h2).1).trans h2⟩
                · cases hV
              simp only [List.zipIdx_cons, List.zipIdx_nil, Nat.zero_add, Nat.reduceAdd, List.take_succ_cons, List.take_zero, List.drop_succ_cons, List.drop_zero]
              iterate 14 (first | (refine grow_det ?_ rfl (fun w' => ?_) ?_; rotate_left 1; (unfold Runs; go_simp; rfl); try simp only [Act.put, List.setIfInBounds_toArray, List.set_cons_zero, List.set_cons_succ]) | (refine grow_read ?_ rfl (fun w' hr _ => ?_) ?_; rotate_left 1; (have g0 := (hr.cell (World.block_lt_of_cell? w2.drew _ hx0)).trans hx0; have g1 := (hr.cell (World.block_lt_of_cell? w2.drew _ hx1)).trans hx1;  unfold Runs; go_simp; rfl); try simp only [Act.put, List.setIfInBounds_toArray, List.set_cons_zero, List.set_cons_succ]))
              refine grow_pred _ rfl (fun w' hr _ => ?_) (fun v => ?_)
              · have hw0 : IntKind.u8.wrap x.f0 = q0 := by rw [← hq0]; unfold IntKind.wrap; simp [IntKind.bits, IntKind.signed]
                have hw1 : IntKind.u8.wrap (x.f1.size : Int) = q1 := by rw [← hq1]; unfold IntKind.wrap; simp [IntKind.bits, IntKind.signed]
                clear hq0 hq1 hs
                unfold Gives gives
                go_simp
                exact ⟨below_alloc (Below.refl _ _) _, (Array.getElem?_eq_some_iff.1 (blk_new w' _)).2⟩
              try simp only [Act.put, List.setIfInBounds_toArray, List.set_cons_zero, List.set_cons_succ]
              refine grow_end (fun w3 hr hf => ?_)
              have hf14 := hf 14
              rw [upd_self] at hf14
              obtain ⟨b, rfl, hb⟩ := hf14
              clear hf
              have E3 := Aside0.mk (E2.out.later (below_step (below_drew1 (Below.refl _ _)) hr))
              have hx1 := (hr.cell (World.block_lt_of_cell? w2.drew _ hx1)).trans hx1
              clear hr hx0 E2
              have hBl := entsR_len j (by omega) E3.out.ok
              obtain ⟨B0, hB0⟩ : ∃ B, (l0.take j).flatMap entB = B := ⟨_, rfl⟩
              rw [hB0] at hBl
              have hrow := E3.out.row
              rw [hB0] at hrow
              refine Kd.R_append_rows (Kd.int .u8) (w0 := w) w.heap.size rfl (.tmp 56) (.tmp 70) 40 5 (.int .u8 0) 1 rfl Tryd.underlying40 info5 rfl (by decide) (by decide) _ B0 [q0, q1] (some ⟨b, 0, none⟩) 2 2 (fun _ => True) (fun _ => False) rfl rfl hrow (Kd.C_of_reads (d := 0) ⟨rfl, by omega, fun _ => ⟨_, rfl, fun i hi => two_cells hb i hi⟩⟩ : Kd.C (Kd.int .u8) w3 (some ⟨b, 0, none⟩) 2 [q0, q1]) (fun _ _ h => h) (fun _ h => h.elim) (fun _ _ => trivial) E3.out.bel E3.out.bel.size (by omega) ?_
              intro v1 w4 ho1 hb1 hg1 hat1
              have HO1 := Aside0.mk ho1
              have HB1 := Aside0.mk hb1
              obtain ⟨ad2, ead2, -, hx2⟩ := at_T47 (Kd.C_below HR.out hb1) (j : Int) (by omega) (by omega)
              obtain rfl := Option.some.inj ead2
              rw [Int.toNat_natCast, hx] at hx2
              clear ho1 hb1 hg1 hat1 hrow hb hx1
              have hb2l : (B0 ++ [q0, q1] ++ bytesOf x.f1).length = 32 * j + 2 + x.f1.size := by rw [List.length_append, List.length_append, bytesOf_length, hBl]; rfl
              obtain ⟨kp, hkp⟩ := Ev.rounds (ev_pad (32 * (j + 1)) (by omega) (30 - x.f1.size) (B0 ++ [q0, q1] ++ bytesOf x.f1) (by rw [hb2l]; omega))
              rw [show ((32 * (j + 1) : Nat) : Int) = 32 * ((j : Int) + 1) by omega] at hkp
              have hb1l : (B0 ++ [q0, q1]).length + x.f1.size ≤ 140737488355328 := by rw [List.length_append, hBl]; simp only [List.length_cons, List.length_nil]; omega
              have hnx : B0 ++ [q0, q1] ++ bytesOf x.f1 ++ List.replicate (30 - x.f1.size) 0 = (l0.take (j + 1)).flatMap entB := by
                rw [List.take_add_one, List.getElem?_eq_getElem (by omega : j < l0.length), List.flatMap_append, hB0, ← rd_get47 (by omega), hx]
                simp only [Option.toList_some, List.flatMap_cons, List.flatMap_nil, List.append_nil, entB, hq0, hq1, List.append_assoc, List.cons_append, List.nil_append]
              rw [hnx] at hkp
              have HKP := Aside0.mk hkp
              have HB1L := Aside0.mk hb1l
              have OK3 := Aside0.mk E3.out.ok
              clear hkp hb1l hb2l hnx E3 hBl hB0 hq0 hq1 hs
              go_wp2_with (first
                | ((with_reducible refine gate_dst (N := 78) rfl ?_); refine PxConv.R_append_conv (w0 := w) w.heap.size rfl rfl 72 78 (by decide) rfl _ 9 40 5 rfl rfl Tryd.underlying40 Tryd.underlying5 Tryd.underlying9 info5 v1 (B0 ++ [q0, q1]) x.f1 (fun _ => True) rfl rfl (of_decide_eq_true rfl) HO1.out (fun _ _ => trivial) HB1.out HB1.out.size HB1L.out ?_; intro v2 w5 z_ ho2 hb2 hg2 hat2; have HO2 := Aside0.mk ho2; have HB2 := Aside0.mk hb2; clear ho2 hb2 hg2 hat2)
                | (go_at_call 43; refine (majordomoref03_pad.calls kp (fun _ => True) v2 (B0 ++ [q0, q1] ++ bytesOf x.f1) (32 * ((j : Int) + 1)) ((l0.take (j + 1)).flatMap entB) w w5 HB2.out HO2.out HKP.out).mono ?_; rintro e w6 ⟨v3, rfl, ho3, hb3, hk3⟩; have HO3 := Aside0.mk ho3; have HB3 := Aside0.mk hb3; clear ho3 hb3 hk3))
              have F6 := Aside0.mk (show FSt w w6 l0 v3 (j + 1) from ⟨Kd.R_mono HO3.out (fun _ _ => trivial), HB3.out, by omega, fun k hk => by
                by_cases e : k = j
                · subst e; exact hok
                · exact OK3.out k (by omega)⟩)
              clear HO3 HB3
              go_roundw
              case rel => exact ⟨j + 1, by go_num, F6.out⟩
              case measure => simp [Lib.intOf]; omega
          · have cjd : decide (0 < (j : Int)) = false := decide_eq_false cj
            have cjn : (0 < j) = False := eq_false (by omega)
            refine wp_region_grow (fun a b => Below a.heap.size a b) (fun | 20 => some (fun v _ => v = .bool true) | _ => none) (by kernel_rfl) (by kernel_rfl) (fun _ => Below.refl _ _) (fun _ _ _ => below_step) ?_ ?_
            · intro i V hV v w1 w2 hr hv
              split at hV
              · cases hV; exact hv
              · cases hV
            simp only [List.zipIdx_cons, List.zipIdx_nil, Nat.zero_add, Nat.reduceAdd]
            iterate 20 (first | (refine grow_det ?_ rfl (fun w' => ?_) ?_; rotate_left 1; (unfold Runs; go_simp; rfl); try simp only [Act.put, List.setIfInBounds_toArray, List.set_cons_zero, List.set_cons_succ]) | (refine grow_read ?_ rfl (fun w' hr _ => ?_) ?_; rotate_left 1; (have g0 := (hr.cell (World.block_lt_of_cell? wr.drew _ hx0)).trans hx0; have g1 := (hr.cell (World.block_lt_of_cell? wr.drew _ hx1)).trans hx1;  unfold Runs; go_simp; rfl); try simp only [Act.put, List.setIfInBounds_toArray, List.set_cons_zero, List.set_cons_succ]))
            refine grow_pred _ rfl (fun w' hr _ => ?_) (fun v => ?_)
            · unfold Gives gives
              go_simp
              refine (majordomoref03_Name.calls kn x.f1 true w' HN.out).mono ?_
              rintro e w'' ⟨rfl, bel⟩
              replace bel : Below w'.heap.size w' w'' := by first | exact bel | exact bel.below
              first | exact ⟨_, rfl, bel, rfl⟩ | exact ⟨rfl, bel⟩ | exact bel | (simp; exact bel)
            try simp only [Act.put, List.setIfInBounds_toArray, List.set_cons_zero, List.set_cons_succ]
            refine grow_read (.bool (!true)) rfl (fun w' hr hf => ?_) ?_
            · have h1 := hf 20 (by kernel_rfl)
              rw [upd_self] at h1
              subst h1
              unfold Runs
              go_simp
            try simp only [Act.put, List.setIfInBounds_toArray, List.set_cons_zero, List.set_cons_succ]
            iterate 19 (first | (refine grow_det ?_ rfl (fun w' => ?_) ?_; rotate_left 1; (unfold Runs; go_simp; rfl); try simp only [Act.put, List.setIfInBounds_toArray, List.set_cons_zero, List.set_cons_succ]) | (refine grow_read ?_ rfl (fun w' hr _ => ?_) ?_; rotate_left 1; (have g0 := (hr.cell (World.block_lt_of_cell? wr.drew _ hx0)).trans hx0; have g1 := (hr.cell (World.block_lt_of_cell? wr.drew _ hx1)).trans hx1;  unfold Runs; go_simp; rfl); try simp only [Act.put, List.setIfInBounds_toArray, List.set_cons_zero, List.set_cons_succ]))
            refine grow_end (fun w2 hr hf => ?_)
            clear hf
            have hok : entOkR l0 j = true := by unfold entOkR; rw [hx, hnb, decide_eq_true (show 1 ≤ x.f0 by omega), decide_eq_true (show x.f0 < 64 by omega), decide_eq_true (show j = 0 by omega)]; rfl
            have E2 := Aside0.mk (E1.out.later (below_step (below_drew1 (Below.refl _ _)) hr))
            have hy0 := (hr.cell (World.block_lt_of_cell? wr.drew _ hx0)).trans hx0
            have hy1 := (hr.cell (World.block_lt_of_cell? wr.drew _ hx1)).trans hx1
            clear hr hx0 hx1 E1
            go_wp2
            have hx0 := hy0
            have hx1 := hy1
            clear hy0 hy1
            have hs := okR_name hok
            rw [hx] at hs
            obtain ⟨q0, hq0⟩ : ∃ q, x.f0 % 256 = q := ⟨_, rfl⟩
            obtain ⟨q1, hq1⟩ : ∃ q, (x.f1.size : Int) % 256 = q := ⟨_, rfl⟩
            refine wp_region_growU 15 (fun a b => Below a.heap.size a b) (fun | 14 => some (fun v w' => ∃ b, v = .slice (some ⟨b, 0, none⟩) 2 2 ∧ w'.heap[b]? = some (.cells #[.int .u8 q0, .int .u8 q1] 5 (0, 0))) | _ => none) (by kernel_rfl) (by kernel_rfl) (by kernel_rfl) (by kernel_rfl) (by kernel_rfl) (fun _ => Below.refl _ _) (fun _ _ _ => below_step) ?_ ?_
            · intro i V hV v w1 w2 hr hv
              split at hV
              · cases hV
                obtain ⟨b, h1, h2⟩ := hv
                exact ⟨b, h1, (hr.block b (Array.getElem?_eq_some_iff.1 h2).1).trans h2⟩
              · cases hV
            simp only [List.zipIdx_cons, List.zipIdx_nil, Nat.zero_add, Nat.reduceAdd, List.take_succ_cons, List.take_zero, List.drop_succ_cons, List.drop_zero]
            iterate 14 (first | (refine grow_det ?_ rfl (fun w' => ?_) ?_; rotate_left 1; (unfold Runs; go_simp; rfl); try simp only [Act.put, List.setIfInBounds_toArray, List.set_cons_zero, List.set_cons_succ]) | (refine grow_read ?_ rfl (fun w' hr _ => ?_) ?_; rotate_left 1; (have g0 := (hr.cell (World.block_lt_of_cell? w2.drew _ hx0)).trans hx0; have g1 := (hr.cell (World.block_lt_of_cell? w2.drew _ hx1)).trans hx1;  unfold Runs; go_simp; rfl); try simp only [Act.put, List.setIfInBounds_toArray, List.set_cons_zero, List.set_cons_succ]))
            refine grow_pred _ rfl (fun w' hr _ => ?_) (fun v => ?_)
            · have hw0 : IntKind.u8.wrap x.f0 = q0 := by rw [← hq0]; unfold IntKind.wrap; simp [IntKind.bits, IntKind.signed]
              have hw1 : IntKind.u8.wrap (x.f1.size : Int) = q1 := by rw [← hq1]; unfold IntKind.wrap; simp [IntKind.bits, IntKind.signed]
              clear hq0 hq1 hs
              unfold Gives gives
              go_simp
              exact ⟨below_alloc (Below.refl _ _) _, (Array.getElem?_eq_some_iff.1 (blk_new w' _)).2⟩
            try simp only [Act.put, List.setIfInBounds_toArray, List.set_cons_zero, List.set_cons_succ]
            refine grow_end (fun w3 hr hf => ?_)
            have hf14 := hf 14
            rw [upd_self] at hf14
            obtain ⟨b, rfl, hb⟩ := hf14
            clear hf
            have E3 := Aside0.mk (E2.out.later (below_step (below_drew1 (Below.refl _ _)) hr))
            have hx1 := (hr.cell (World.block_lt_of_cell? w2.drew _ hx1)).trans hx1
            clear hr hx0 E2
            have hBl := entsR_len j (by omega) E3.out.ok
            obtain ⟨B0, hB0⟩ : ∃ B, (l0.take j).flatMap entB = B := ⟨_, rfl⟩
            rw [hB0] at hBl
            have hrow := E3.out.row
            rw [hB0] at hrow
            refine Kd.R_append_rows (Kd.int .u8) (w0 := w) w.heap.size rfl (.tmp 56) (.tmp 70) 40 5 (.int .u8 0) 1 rfl Tryd.underlying40 info5 rfl (by decide) (by decide) _ B0 [q0, q1] (some ⟨b, 0, none⟩) 2 2 (fun _ => True) (fun _ => False) rfl rfl hrow (Kd.C_of_reads (d := 0) ⟨rfl, by omega, fun _ => ⟨_, rfl, fun i hi => two_cells hb i hi⟩⟩ : Kd.C (Kd.int .u8) w3 (some ⟨b, 0, none⟩) 2 [q0, q1]) (fun _ _ h => h) (fun _ h => h.elim) (fun _ _ => trivial) E3.out.bel E3.out.bel.size (by omega) ?_
            intro v1 w4 ho1 hb1 hg1 hat1
            have HO1 := Aside0.mk ho1
            have HB1 := Aside0.mk hb1
            obtain ⟨ad2, ead2, -, hx2⟩ := at_T47 (Kd.C_below HR.out hb1) (j : Int) (by omega) (by omega)
            obtain rfl := Option.some.inj ead2
            rw [Int.toNat_natCast, hx] at hx2
            clear ho1 hb1 hg1 hat1 hrow hb hx1
            have hb2l : (B0 ++ [q0, q1] ++ bytesOf x.f1).length = 32 * j + 2 + x.f1.size := by rw [List.length_append, List.length_append, bytesOf_length, hBl]; rfl
            obtain ⟨kp, hkp⟩ := Ev.rounds (ev_pad (32 * (j + 1)) (by omega) (30 - x.f1.size) (B0 ++ [q0, q1] ++ bytesOf x.f1) (by rw [hb2l]; omega))
            rw [show ((32 * (j + 1) : Nat) : Int) = 32 * ((j : Int) + 1) by omega] at hkp
            have hb1l : (B0 ++ [q0, q1]).length + x.f1.size ≤ 140737488355328 := by rw [List.length_append, hBl]; simp only [List.length_cons, List.length_nil]; omega
            have hnx : B0 ++ [q0, q1] ++ bytesOf x.f1 ++ List.replicate (30 - x.f1.size) 0 = (l0.take (j + 1)).flatMap entB := by
              rw [List.take_add_one, List.getElem?_eq_getElem (by omega : j < l0.length), List.flatMap_append, hB0, ← rd_get47 (by omega), hx]
              simp only [Option.toList_some, List.flatMap_cons, List.flatMap_nil, List.append_nil, entB, hq0, hq1, List.append_assoc, List.cons_append, List.nil_append]
            rw [hnx] at hkp
            have HKP := Aside0.mk hkp
            have HB1L := Aside0.mk hb1l
            have OK3 := Aside0.mk E3.out.ok
            clear hkp hb1l hb2l hnx E3 hBl hB0 hq0 hq1 hs
            go_wp2_with (first
              | ((with_reducible refine gate_dst (N := 78) rfl ?_); refine PxConv.R_append_conv (w0 := w) w.heap.size rfl rfl 72 78 (by decide) rfl _ 9 40 5 rfl rfl Tryd.underlying40 Tryd.underlying5 Tryd.underlying9 info5 v1 (B0 ++ [q0, q1]) x.f1 (fun _ => True) rfl rfl (of_decide_eq_true rfl) HO1.out (fun _ _ => trivial) HB1.out HB1.out.size HB1L.out ?_; intro v2 w5 z_ ho2 hb2 hg2 hat2; have HO2 := Aside0.mk ho2; have HB2 := Aside0.mk hb2; clear ho2 hb2 hg2 hat2)
              | (go_at_call 43; refine (majordomoref03_pad.calls kp (fun _ => True) v2 (B0 ++ [q0, q1] ++ bytesOf x.f1) (32 * ((j : Int) + 1)) ((l0.take (j + 1)).flatMap entB) w w5 HB2.out HO2.out HKP.out).mono ?_; rintro e w6 ⟨v3, rfl, ho3, hb3, hk3⟩; have HO3 := Aside0.mk ho3; have HB3 := Aside0.mk hb3; clear ho3 hb3 hk3))
            have F6 := Aside0.mk (show FSt w w6 l0 v3 (j + 1) from ⟨Kd.R_mono HO3.out (fun _ _ => trivial), HB3.out, by omega, fun k hk => by
              by_cases e : k = j
              · subst e; exact hok
              · exact OK3.out k (by omega)⟩)
            clear HO3 HB3
            go_roundw
            case rel => exact ⟨j + 1, by go_num, F6.out⟩
            case measure => simp [Lib.intOf]; omega
      · obtain rfl : j = n := by omega
        have E1 := Aside0.mk hE
        have hk := hE.ok
        have hall : (List.range l0.length).all (entOkR l0) = true := List.all_eq_true.2 fun k hm => hk k (by rw [List.mem_range] at hm; omega)
        have h := H.out
        rw [if_pos hall] at h
        simp only [Option.some.injEq, Prod.mk.injEq] at h
        obtain ⟨rfl, rfl⟩ := h
        clear hE hk F0 hall H
        go_wp2
        refine bodyPost_ret (results_tmp2 rfl _ _ _) rfl ?_
        have hrow := E1.out.row
        rw [← hln, List.take_length] at hrow
        exact ⟨_, rfl, hrow, E1.out.bel⟩
  · rw [if_neg hall] at h
    cases h

end Go.Proofs.YtgppfalpncbmbaaDoor.PE
