/- tables.Print: rows written into a Builder. -/
import Derived.Test.YtiobdnnijbfdhaaDoorPTx3
import Derived.Test.YtiobdnnijbfdhaaDoorShelf
import Derived.Test.YtiobdnnijbfdhaaDoorGrowT
namespace Go.Proofs.YtiobdnnijbfdhaaDoor.PT
open Go.Proofs.YtiobdnnijbfdhaaDoor (cellOf)
open Go.RowKit Go.Proofs.YtiobdnnijbfdhaaDoorW.PrintWords Go.Proofs.YtiobdnnijbfdhaaDoorW.PrintLast Go.Proofs.YtiobdnnijbfdhaaDoorW.PrintMore
set_option linter.unusedVariables false
set_option linter.unusedSimpArgs false
--BEGIN Print
theorem builder_write (B b : Nat) (bs : List Value) (s : ByteArray) (w : World) (h : Lib.IsBuilder 51 5 B b bs w) (hlen : bs.length + s.size ≤ 140737488355328) (hBw : B ≤ w.heap.size) :
    Calls Tryd.prog 27 #[.pointer (some ⟨b, 0, none⟩), .string s] w fun e w' => e = .returned (.tuple #[.int .i64 s.size, .nilIface]) ∧ (Lib.BuilderAt 51 5 B b (.pointer (some ⟨b, 0, none⟩)) (bs ++ Lib.strCells s) w' ∧ Below B w w') :=
  Any.Builder_WriteString (ρ := Tryd.lays156_ren) { Tryd.lays156 with } Tryd.Builder_Extra_156 B b bs s w h hlen hBw
theorem join_any {A : Option Addr} {c : Nat} {xs : List ByteArray} {w : World} (hr : Kd.string.C w A xs.length xs) (hc : xs.length ≤ c) (hn : xs.length ≤ 100000) (hl : (Lib.join (xs.map (·.data.toList)) [58]).length ≤ 100000) :
    Calls Tryd.prog 28 #[.slice A xs.length c, .string ⟨#[58]⟩] w fun e w' => e = .returned (.string ⟨(Lib.join (xs.map (·.data.toList)) [58]).toArray⟩) ∧ Below w.heap.size w w' := by
  by_cases h0 : xs.length = 0
  · have hx : xs = [] := List.length_eq_zero_iff.1 h0
    subst hx
    refine (Tryd.strings_Join_none A c ⟨#[58]⟩ w).mono ?_
    rintro e w' ⟨rfl, rfl⟩
    exact ⟨rfl, Below.refl _ _⟩
  · obtain ⟨ad, rfl, hcell⟩ := hr.2.2 (by omega)
    have hcells : ∀ (j : Nat) x, xs[j]? = some x → w.cell? (ad.add j) = some (.string x) := by
      intro j x hx
      obtain ⟨cs, -, hK, hrd⟩ := hcell j x hx
      obtain rfl : cs = [.string x] := hK
      have := hrd 0 _ rfl
      rw [show j * Kd.string.sz + 0 = j from Nat.mul_one j] at this
      exact this
    have h1 := hcells 0 _ (List.getElem?_eq_getElem (by omega))
    have hsp : ad.spot = none := by
      cases hs : ad.spot with
      | none => rfl
      | some q =>
        exfalso
        unfold World.cell? at h1
        simp [Addr.add, hs] at h1
        split at h1 <;> simp at h1
    have hlt : ad.block < w.heap.size := by
      have := World.block_lt_of_cell? w _ h1
      simpa [Addr.add] using this
    obtain ⟨bk, o, sp⟩ := ad
    simp only at hsp hlt
    subst hsp
    exact Tryd.strings_Join bk o c xs ⟨#[58]⟩ w (fun j x hx => by
      have := hcells j x hx
      unfold Addr.add at this
      split at this
      · rename_i hj; subst hj; exact this
      · exact this) hlt (by omega) hc (by show (Lib.join (xs.map (·.data.toList)) [58]).length ≤ _; omega)
def numsOf (l : List UInt8) : List Int := l.map fun b => (b.toNat : Int)
theorem bytes_none (w : World) : Kd.C (Kd.int .u8) w none ([] : List Int).length [] := ⟨rfl, by simp, fun h => by simp at h⟩
theorem bytesWorld_below (w : World) (e : TypeId) (s : ByteArray) : Below w.heap.size w (Lib.bytesWorld w e s) := by
  refine ⟨?_, ?_, ?_, by rw [Lib.bytesWorld_size]; omega, fun k hk => Lib.bytesWorld_at_old w e s k hk⟩ <;> rfl
theorem bytesWorld_row (w : World) (e : TypeId) (l : List UInt8) (hl : l.length ≤ 9223372036854775807) : Kd.C (Kd.int .u8) (Lib.bytesWorld w e ⟨l.toArray⟩) (some ⟨w.heap.size, 0, none⟩) (numsOf l).length (numsOf l) := by
  refine ⟨rfl, by unfold numsOf; rw [List.length_map]; exact hl, fun h => ⟨_, rfl, fun j p hj => ⟨[.int .u8 p], rfl, rfl, fun i u hu => ?_⟩⟩⟩
  unfold numsOf at hj
  rw [List.getElem?_map, Option.map_eq_some_iff] at hj
  obtain ⟨b, hb, rfl⟩ := hj
  have hjl : j < l.length := by
    rcases Nat.lt_or_ge j l.length with h | h
    · exact h
    · rw [List.getElem?_eq_none h] at hb; cases hb
  obtain ⟨rfl, rfl⟩ : i = 0 ∧ u = .int .u8 (b.toNat : Int) := by
    cases i with
    | zero => exact ⟨rfl, by simpa using hu.symm⟩
    | succ i => simp at hu
  have := Lib.bytesWorld_cell w e ⟨l.toArray⟩ j (by show j < l.toArray.size; simpa using hjl)
  have hg : (⟨w.heap.size, 0, none⟩ : Addr).add (j * (Kd.int .u8).sz + 0) = ⟨w.heap.size, j, none⟩ := by
    rw [show j * (Kd.int .u8).sz + 0 = j from Nat.mul_one j]
    unfold Addr.add
    split
    · rename_i hj; rw [hj]
    · simp
  rw [hg, this]
  simp [List.getD_eq_getElem?_getD, hb]
theorem isBuilder_far {T e : TypeId} {B b : Nat} {bs : List Value} {w w' : World} (h : Lib.IsBuilder T e B b bs w) (k : Below w.heap.size w w') : Lib.IsBuilder T e B b bs w' := by
  have go : ∀ p, Lib.BuilderAt T e B b p bs w → Lib.BuilderAt T e B b p bs w' := by
    rintro p ⟨h1, v, h2, h3, h4⟩
    exact ⟨h1, v, (k.block b (Array.getElem?_eq_some_iff.1 h2).1).trans h2, own_move h3 (fun q hq => k.block q (own_lt h3 q hq)), h4⟩
  rcases h with h | h
  · exact .inl (go _ h)
  · exact .inr (go _ h)
/-- A row's text. -/
def rowText (r : S34) : List UInt8 := r.f0.data.toList ++ 58 :: (Lib.join (r.f1.map (·.data.toList)) [58] ++ [10])
def textOf (r : S34) : ByteArray := r.f0 ++ ⟨#[58]⟩ ++ ⟨(Lib.join (r.f1.map (·.data.toList)) [58]).toArray⟩ ++ ⟨#[10]⟩
theorem text_row (r : S34) : (textOf r).data.toList = rowText r := by
  unfold textOf rowText
  simp [ByteArray.data_append]
theorem text_size (r : S34) : (textOf r).size = (rowText r).length := by
  rw [← text_row]
  exact (Array.length_toList ..).symm
def tables_Print.l0 (k : Nat) (a0 : ByteArray) (l1 : List S34) : Nat → Nat → List UInt8 → Option (List Int × Int)
  | 0, i, s => some (if 2432 < s.length then ([], 5) else (numsOf s, 0))
  | n + 1, i, s => (tables_Check.f k a0 (rd_T34 l1 i).f0 (rd_T34 l1 i).f1).bind fun e => if e ≠ 0 then some ([], 51) else
    if 0 < i ∧ (Op.bytesLess (rd_T34 l1 i).f0.toList (rd_T34 l1 ((i : Int) - 1)).f0.toList || (rd_T34 l1 i).f0.toList == (rd_T34 l1 ((i : Int) - 1)).f0.toList) = true then some ([], 51) else
    if (rowText (rd_T34 l1 i)).length ≤ 100000 ∧ (rd_T34 l1 i).f1.length ≤ 100000 then tables_Print.l0 k a0 l1 n (i + 1) (s ++ rowText (rd_T34 l1 i)) else none
def tables_Print.f (k : Nat) (a0 : ByteArray) (l1 : List S34) : Option (List Int × Int) := if widthOf a0 = 0 then some ([], 50) else if 32 < l1.length then some ([], 5) else tables_Print.l0 k a0 l1 l1.length 0 []
theorem tables_Print.mono_l (k : Nat) (a0 : ByteArray) (l1 : List S34) : ∀ n i s, LeO (tables_Print.l0 k a0 l1 n i s) (tables_Print.l0 (k + 1) a0 l1 n i s)
  | 0, i, s => LeO.refl _
  | n + 1, i, s => by
    unfold tables_Print.l0
    exact LeO.bind (tables_Check.mono _ _ _ _) fun _ => LeO.ite (LeO.refl _) (LeO.ite (LeO.refl _) (LeO.ite (tables_Print.mono_l k a0 l1 n _ _) (LeO.refl _)))
theorem tables_Print.mono : ∀ a0 l1 k, LeO (tables_Print.f k a0 l1) (tables_Print.f (k + 1) a0 l1) := fun a0 l1 k => by
  unfold tables_Print.f
  exact LeO.ite (LeO.refl _) (LeO.ite (LeO.refl _) (tables_Print.mono_l k a0 l1 _ _ _))
set_option maxRecDepth 100000 in
set_option maxHeartbeats 8000000 in
theorem tables_Print.calls (k : Nat) (a0 : ByteArray) (A1 : Option Addr) (c1 : Nat) (l1 : List S34) (r1 : List Int) (r2 : Int) (w : World) (hr1 : Kd.C k34 w A1 l1.length l1) (hc1 : l1.length ≤ c1) (h : tables_Print.f k a0 l1 = some (r1, r2)) :
    Calls Tryd.prog 10 #[.string a0, .slice A1 l1.length c1] w fun e w' => ∃ (A : Option Addr) (c : Nat), e = .returned (.tuple #[.slice A r1.length c, .int .i64 r2]) ∧ r1.length ≤ c ∧ Kd.C (Kd.int .u8) w' A r1.length r1 ∧ Below w.heap.size w w' := by
  have hw := fun w' => tables_Width.calls a0 (widthOf a0) w' rfl
  have HW := Aside0.mk hw
  clear hw
  unfold tables_Print.f at h
  by_cases h0 : widthOf a0 = 0
  · rw [if_pos h0] at h
    obtain ⟨rfl, rfl⟩ : [] = r1 ∧ 50 = r2 := by simpa using h
    clear h
    go_enter Tryd.func10, Tryd.ntmps10
    go_wp2_with (go_at_call 13; refine (HW.out _).mono ?_; rintro e w1 ⟨rfl, hb1⟩)
    go_ret2
    exact ⟨none, 0, rfl, Nat.le_refl _, bytes_none _, hb1⟩
  · rw [if_neg h0] at h
    have hb0 : (widthOf a0 == 0) = false := by simpa using h0
    by_cases h32 : 32 < l1.length
    · rw [if_pos h32] at h
      obtain ⟨rfl, rfl⟩ : [] = r1 ∧ 5 = r2 := by simpa using h
      have h32i : (32 : Int) < (l1.length : Int) := by omega
      clear h
      go_enter Tryd.func10, Tryd.ntmps10
      go_wp2_with (go_at_call 13; refine (HW.out _).mono ?_; rintro e w1 ⟨rfl, hb1⟩)
      go_ret2
      exact ⟨none, 0, rfl, Nat.le_refl _, bytes_none _, hb1⟩
    · rw [if_neg h32] at h
      have h32i : ¬ (32 : Int) < (l1.length : Int) := by omega
      have H := Aside0.mk h
      have HR := Aside0.mk hr1
      clear h hr1
      go_enter Tryd.func10, Tryd.ntmps10
      go_wp2_with (go_at_call 13; refine (HW.out _).mono ?_; rintro e w1 ⟨rfl, hb1⟩)
      obtain ⟨b, hb⟩ : ∃ q, q = w1.heap.size := ⟨_, rfl⟩
      obtain ⟨w2, hw2⟩ : ∃ q, q = w1.alloc (.cells #[.pointer none, .slice none 0 0] 51) := ⟨_, rfl⟩
      rw [← hw2, ← hb]
      have hB : Lib.IsBuilder 51 5 w.heap.size b (Lib.byteCells []) w2 := .inl ⟨hb ▸ hb1.size, .slice none 0 0, hb ▸ hw2 ▸ heap_alloc_new w1 _, World.ownsRow_nil w2 _ _ _, by simp [Value.ownBlock]⟩
      have BB := Aside0.mk hB
      have BL := Aside0.mk (hw2 ▸ below_alloc hb1 _ : Below w.heap.size w w2)
      clear hB hb1 hw2 hb
      go_loopw [7, 8, 19] (fun _ _ v19 wr => ∃ (i : Nat) (s : List UInt8), v19 = .int .i64 i ∧ i ≤ l1.length ∧ s.length ≤ i * 100000 ∧ Aside0 (tables_Print.l0 k a0 l1 (l1.length - i) i s = some (r1, r2)) ∧ Aside0 (Lib.IsBuilder 51 5 w.heap.size b (Lib.byteCells s) wr) ∧ Aside0 (Below w.heap.size w wr)) (fun _ _ v19 _ => l1.length - (intOf v19).toNat)
      case atStart => exact ⟨0, [], rfl, Nat.zero_le _, Nat.le_refl _, H, BB, BL⟩
      case round =>
        obtain ⟨i, s, rfl, hi, hs, hH, hBu, hBe⟩ := hrel
        clear H BB BL
        by_cases hin : i < l1.length
        · have hii : (i : Int) < (l1.length : Int) := by omega
          obtain ⟨ad, A2, c2, had, q0, q1, q2, q3⟩ := at_T34 (Kd.C_below HR.out hBe.out) (i : Int) (by omega) (by omega)
          subst had
          rw [Int.toNat_natCast] at q0 q1
          obtain ⟨x, hx⟩ : ∃ x, x = rd_T34 l1 (i : Int) := ⟨_, rfl⟩
          rw [← hx] at q0 q1 q2 q3
          have HX := Aside0.mk hx
          have Q3 := Aside0.mk q3
          clear hx q3
          go_upto_region 9 with fail
--LOOP
          obtain ⟨ga, hga⟩ : ∃ q, q = wr.heap.size := ⟨_, rfl⟩
          obtain ⟨wR, hwR⟩ : ∃ q, q = wr.alloc (.cells #[.string x.f0, .slice A2 x.f1.length c2] 34) := ⟨_, rfl⟩
          rw [← hwR, ← hga]
          have bR : Below wr.heap.size wr wR := hwR ▸ below_alloc (Below.refl _ _) _
          have bx : wR.heap[ga]? = some (.cells #[.string x.f0, .slice A2 x.f1.length c2] 34 (0, 0)) := hwR ▸ hga ▸ heap_alloc_new wr _
          have z0 : wR.cell? ⟨ga, 0, none⟩ = some (.string x.f0) := (cellOf bx 0).trans rfl
          have z1 : wR.cell? ⟨ga, 1, none⟩ = some (.slice A2 x.f1.length c2) := (cellOf bx 1).trans rfl
          have BX := Aside0.mk bx
          have hQ4 := Kd.C_below Q3.out bR
          have Q5 := Aside0.mk (Kd.C_below hQ4 (below_drew1 (Below.refl _ wR)))
          have Q4 := Aside0.mk hQ4
          have hBB := isBuilder_far hBu.out bR
          have BU := Aside0.mk hBB
          have BR := Aside0.mk (below_step hBe.out bR)
          have HGA := Aside0.mk (show wr.heap.size ≤ ga by omega)
          clear hBu hBe Q3 bR bx hQ4 hBB hwR hga q0 q1
          have h := hH.out
          rw [show l1.length - i = (l1.length - (i + 1)) + 1 by omega] at h
          unfold tables_Print.l0 at h
          rw [← HX.out] at h
          obtain ⟨ce, hce, h⟩ := Option.bind_eq_some_iff.1 h
          have HCE := Aside0.mk hce
          clear hce hH
          by_cases he : ce = 0
          · rw [if_neg (by simpa using he)] at h
            subst he
            by_cases hi0 : i = 0
            · subst hi0
              rw [if_neg (by omega)] at h
              have H := Aside0.mk h
              clear h
              refine wp_region_grow (fun a b => Below a.heap.size a b) (fun | 2 => some (fun v _ => v = .int .i64 0) | _ => none) (by kernel_rfl) (by kernel_rfl) (fun _ => Below.refl _ _) (fun _ _ _ => below_step) ?_ ?_
              · intro i V hV v w1 w2 hr hv
                split at hV
                · cases hV; exact hv
                · cases hV
              simp only [List.zipIdx_cons, List.zipIdx_nil, Nat.zero_add, Nat.reduceAdd]
              iterate 2 (first | (refine grow_det ?_ rfl (fun w' => ?_) ?_; rotate_left 1; ( unfold Runs; go_simp; rfl); try simp only [Act.put, List.setIfInBounds_toArray, List.set_cons_zero, List.set_cons_succ]) | (refine grow_read ?_ rfl (fun w' hr _ => ?_) ?_; rotate_left 1; ( have g_z0 := (hr.cell (World.block_lt_of_cell? wR.drew _ z0)).trans z0; have g_z1 := (hr.cell (World.block_lt_of_cell? wR.drew _ z1)).trans z1; unfold Runs; go_simp; rfl); try simp only [Act.put, List.setIfInBounds_toArray, List.set_cons_zero, List.set_cons_succ]))
              refine grow_pred _ rfl (fun w' hr _ => ?_) (fun v => ?_)
              · have hcx := Kd.C_below Q5.out hr
                unfold Gives gives
                go_simp
                refine (tables_Check.calls k a0 x.f0 A2 c2 x.f1 0 w' hcx q2 HCE.out).mono ?_
                rintro e w'' ⟨rfl, bel⟩
                first | exact ⟨_, rfl, bel, rfl⟩ | exact ⟨rfl, bel⟩ | exact bel | (simp; exact bel)
              try simp only [Act.put, List.setIfInBounds_toArray, List.set_cons_zero, List.set_cons_succ]
              refine grow_read (.bool false) rfl (fun w' hr hf => ?_) ?_
              · have h1 := hf 2 (by kernel_rfl)
                rw [upd_self] at h1
                subst h1
                unfold Runs
                go_simp
              try simp only [Act.put, List.setIfInBounds_toArray, List.set_cons_zero, List.set_cons_succ]
              iterate 15 (first | (refine grow_det ?_ rfl (fun w' => ?_) ?_; rotate_left 1; ( unfold Runs; go_simp; rfl); try simp only [Act.put, List.setIfInBounds_toArray, List.set_cons_zero, List.set_cons_succ]) | (refine grow_read ?_ rfl (fun w' hr _ => ?_) ?_; rotate_left 1; ( have g_z0 := (hr.cell (World.block_lt_of_cell? wR.drew _ z0)).trans z0; have g_z1 := (hr.cell (World.block_lt_of_cell? wR.drew _ z1)).trans z1; unfold Runs; go_simp; rfl); try simp only [Act.put, List.setIfInBounds_toArray, List.set_cons_zero, List.set_cons_succ]))
              refine grow_end (fun w' hr hf => ?_)
              clear hf
              have hbw : Below wR.heap.size wR w' := below_step (below_drew1 (Below.refl _ _)) hr
              have HBW := Aside0.mk (below_step BR.out hbw)
              have hbx := (hbw.block ga (Array.getElem?_eq_some_iff.1 BX.out).1).trans BX.out
              have HBX := Aside0.mk hbx
              have HBU := Aside0.mk (isBuilder_far BU.out hbw)
              have HQ := Aside0.mk (Kd.C_below (Kd.C_below Q4.out hbw) (below_drew1 (Below.refl _ w')))
              have h := H.out
              by_cases hlen : (rowText x).length ≤ 100000 ∧ x.f1.length ≤ 100000
              · rw [if_pos hlen] at h
                have H2 := Aside0.mk h
                obtain ⟨hl1, hl2⟩ := hlen
                have HJ := Aside0.mk (show (Lib.join (x.f1.map (·.data.toList)) [58]).length ≤ 100000 by unfold rowText at hl1; simp only [List.length_append, List.length_cons] at hl1; omega)
                have hj1 := HJ.out
                have hl3 : x.f0.size ≤ 100000 := by unfold rowText at hl1; rw [List.length_append] at hl1; have h5 : x.f0.data.toList.length = x.f0.size := Array.length_toList ..; omega
                have HZ1 := Aside0.mk (show ¬ 9223372036854775807 < x.f0.size + 1 by omega)
                have HZ2 := Aside0.mk (show ¬ 9223372036854775807 < x.f0.size + 1 + (Lib.join (x.f1.map (·.data.toList)) [58]).length by omega)
                have HZ3 := Aside0.mk (show ¬ 9223372036854775807 < x.f0.size + 1 + (Lib.join (x.f1.map (·.data.toList)) [58]).length + 1 by omega)
                clear hj1
                clear h H hr hbw hbx BX BU Q4 Q5 z0 z1
                try rw [hle]
                go_upto_region 11 with fail
                have z0 : w'.cell? ⟨ga, 0, none⟩ = some (.string x.f0) := (cellOf HBX.out 0).trans rfl
                have z1 : w'.cell? ⟨ga, 1, none⟩ = some (.slice A2 x.f1.length c2) := (cellOf HBX.out 1).trans rfl
                obtain ⟨wR, hwR⟩ : ∃ q, q = w' := ⟨_, rfl⟩
                rw [← hwR] at z0 z1 HQ HBU HBW ⊢
                refine wp_region_growT 8 (fun a b => Below a.heap.size a b) (fun | 5 => some (fun v _ => v = .string ⟨(Lib.join (x.f1.map (·.data.toList)) [58]).toArray⟩) | _ => none) (by kernel_rfl) (by kernel_rfl) (by kernel_rfl) (by kernel_rfl) (by kernel_rfl) (fun _ => Below.refl _ _) (fun _ _ _ => below_step) ?_ ?_
                · intro i V hV v w1 w2 hr hv
                  split at hV
                  · cases hV; exact hv
                  · cases hV
                simp only [List.zipIdx_cons, List.zipIdx_nil, Nat.zero_add, Nat.reduceAdd, List.take_succ_cons, List.take_zero, List.drop_succ_cons, List.drop_zero]
                iterate 5 (first | (refine grow_det ?_ rfl (fun w' => ?_) ?_; rotate_left 1; (have hz1 := HZ1.out; have hz2 := HZ2.out; have hz3 := HZ3.out; unfold Runs; go_simp; rfl); try simp only [Act.put, List.setIfInBounds_toArray, List.set_cons_zero, List.set_cons_succ]) | (refine grow_read ?_ rfl (fun w' hr _ => ?_) ?_; rotate_left 1; (have hz1 := HZ1.out; have hz2 := HZ2.out; have hz3 := HZ3.out; have g_z0 := (hr.cell (World.block_lt_of_cell? wR.drew _ z0)).trans z0; have g_z1 := (hr.cell (World.block_lt_of_cell? wR.drew _ z1)).trans z1; unfold Runs; go_simp; rfl); try simp only [Act.put, List.setIfInBounds_toArray, List.set_cons_zero, List.set_cons_succ]))
                refine grow_pred _ rfl (fun w' hr _ => ?_) (fun v => ?_)
                · have hcx := Kd.C_below HQ.out hr
                  unfold Gives gives
                  go_simp
                  refine (join_any hcx q2 hl2 HJ.out).mono ?_
                  rintro e w'' ⟨rfl, bel⟩
                  first | exact ⟨_, rfl, bel, rfl⟩ | exact ⟨rfl, bel⟩ | exact bel | (simp; exact bel)
                try simp only [Act.put, List.setIfInBounds_toArray, List.set_cons_zero, List.set_cons_succ]
                refine grow_read ?_ rfl (fun w' hr hf => ?_) ?_
                rotate_left 1
                · have h1 := hf 5 (by kernel_rfl)
                  rw [upd_self] at h1
                  subst h1
                  have hz1 := HZ1.out; have hz2 := HZ2.out; have hz3 := HZ3.out
                  unfold Runs
                  go_simp
                  rfl
                try simp only [Act.put, List.setIfInBounds_toArray, List.set_cons_zero, List.set_cons_succ]
                iterate 1 (first | (refine grow_det ?_ rfl (fun w' => ?_) ?_; rotate_left 1; (have hz1 := HZ1.out; have hz2 := HZ2.out; have hz3 := HZ3.out; unfold Runs; go_simp; rfl); try simp only [Act.put, List.setIfInBounds_toArray, List.set_cons_zero, List.set_cons_succ]) | (refine grow_read ?_ rfl (fun w' hr _ => ?_) ?_; rotate_left 1; (have hz1 := HZ1.out; have hz2 := HZ2.out; have hz3 := HZ3.out; have g_z0 := (hr.cell (World.block_lt_of_cell? wR.drew _ z0)).trans z0; have g_z1 := (hr.cell (World.block_lt_of_cell? wR.drew _ z1)).trans z1; unfold Runs; go_simp; rfl); try simp only [Act.put, List.setIfInBounds_toArray, List.set_cons_zero, List.set_cons_succ]))
                refine grow_end (fun w4 hr hf => ?_)
                clear hf
                have hu4 := isBuilder_far HBU.out (below_step (below_drew1 (Below.refl _ _)) hr)
                have hbw4 := below_step HBW.out (below_step (below_drew1 (Below.refl _ _)) hr)
                have hw := builder_write w.heap.size b (Lib.byteCells s) (textOf x) w4 hu4 (by rw [Lib.byteCells_length, text_size]; omega) hbw4.size
                have HWR := Aside0.mk hw
                have HB4 := Aside0.mk hbw4
                clear hw hu4 hbw4 hr z0 z1
                go_wp2_with (go_at_call 27; refine HWR.out.mono ?_; rintro e w5 ⟨rfl, hu5, hb5⟩)
                have hcc : Lib.byteCells s ++ Lib.strCells (textOf x) = Lib.byteCells (s ++ rowText x) := by rw [Lib.strCells_eq, text_row]; simp [Lib.byteCells]
                rw [hcc] at hu5
                have HU5 := Aside0.mk (show Lib.IsBuilder 51 5 w.heap.size b (Lib.byteCells (s ++ rowText x)) w5 from .inr hu5)
                have HB5 := Aside0.mk (HB4.out.trans hb5)
                clear hu5 hb5 hcc
                go_roundw
                case rel => exact ⟨0 + 1, s ++ rowText x, by go_num, by omega, by rw [List.length_append]; omega, H2, HU5, HB5⟩
                case measure => first | (simp only [intOf]; omega) | (go_simp; omega) | omega
              · rw [if_neg hlen] at h
                cases h
            · have hip : 0 < i := by omega
              obtain ⟨j, rfl⟩ : ∃ j, i = j + 1 := ⟨i - 1, by omega⟩
              obtain ⟨ad', Ay, cy, had, y0, -, -, -⟩ := at_T34 (Kd.C_below HR.out BR.out) (j : Int) (by omega) (by omega)
              injection had with had
              subst had
              rw [Int.toNat_natCast] at y0
              obtain ⟨y, hy⟩ : ∃ y, y = rd_T34 l1 (j : Int) := ⟨_, rfl⟩
              rw [show ((j + 1 : Nat) : Int) - 1 = (j : Int) by omega] at h
              rw [← hy] at y0 h
              have HWJ := Aside0.mk (show IntKind.i64.wrap (j : Int) = (j : Int) by rw [IntKind.wrap_i64]; omega)
              have HJL := Aside0.mk (show (j : Int) < (l1.length : Int) by omega)
              clear hy hi0
              cases hle : (Op.bytesLess x.f0.toList y.f0.toList || x.f0.toList == y.f0.toList) with
              | true =>
                rw [hle, if_pos ⟨hip, rfl⟩] at h
                refine wp_region_grow (fun a b => Below a.heap.size a b) (fun | 2 => some (fun v _ => v = .int .i64 0) | _ => none) (by kernel_rfl) (by kernel_rfl) (fun _ => Below.refl _ _) (fun _ _ _ => below_step) ?_ ?_
                · intro i V hV v w1 w2 hr hv
                  split at hV
                  · cases hV; exact hv
                  · cases hV
                simp only [List.zipIdx_cons, List.zipIdx_nil, Nat.zero_add, Nat.reduceAdd]
                iterate 2 (first | (refine grow_det ?_ rfl (fun w' => ?_) ?_; rotate_left 1; (have hwj := HWJ.out; have hjl := HJL.out; unfold Runs; go_simp; rfl); try simp only [Act.put, List.setIfInBounds_toArray, List.set_cons_zero, List.set_cons_succ]) | (refine grow_read ?_ rfl (fun w' hr _ => ?_) ?_; rotate_left 1; (have hwj := HWJ.out; have hjl := HJL.out; have g_z0 := (hr.cell (World.block_lt_of_cell? wR.drew _ z0)).trans z0; have g_z1 := (hr.cell (World.block_lt_of_cell? wR.drew _ z1)).trans z1; have g_y0 := (hr.cell (World.block_lt_of_cell? wR.drew _ y0)).trans y0; unfold Runs; go_simp; rfl); try simp only [Act.put, List.setIfInBounds_toArray, List.set_cons_zero, List.set_cons_succ]))
                refine grow_pred _ rfl (fun w' hr _ => ?_) (fun v => ?_)
                · have hcx := Kd.C_below Q5.out hr
                  unfold Gives gives
                  go_simp
                  refine (tables_Check.calls k a0 x.f0 A2 c2 x.f1 0 w' hcx q2 HCE.out).mono ?_
                  rintro e w'' ⟨rfl, bel⟩
                  first | exact ⟨_, rfl, bel, rfl⟩ | exact ⟨rfl, bel⟩ | exact bel | (simp; exact bel)
                try simp only [Act.put, List.setIfInBounds_toArray, List.set_cons_zero, List.set_cons_succ]
                refine grow_read (.bool false) rfl (fun w' hr hf => ?_) ?_
                · have h1 := hf 2 (by kernel_rfl)
                  rw [upd_self] at h1
                  subst h1
                  unfold Runs
                  go_simp
                try simp only [Act.put, List.setIfInBounds_toArray, List.set_cons_zero, List.set_cons_succ]
                iterate 15 (first | (refine grow_det ?_ rfl (fun w' => ?_) ?_; rotate_left 1; (have hwj := HWJ.out; have hjl := HJL.out; unfold Runs; go_simp; rfl); try simp only [Act.put, List.setIfInBounds_toArray, List.set_cons_zero, List.set_cons_succ]) | (refine grow_read ?_ rfl (fun w' hr _ => ?_) ?_; rotate_left 1; (have hwj := HWJ.out; have hjl := HJL.out; have g_z0 := (hr.cell (World.block_lt_of_cell? wR.drew _ z0)).trans z0; have g_z1 := (hr.cell (World.block_lt_of_cell? wR.drew _ z1)).trans z1; have g_y0 := (hr.cell (World.block_lt_of_cell? wR.drew _ y0)).trans y0; unfold Runs; go_simp; rfl); try simp only [Act.put, List.setIfInBounds_toArray, List.set_cons_zero, List.set_cons_succ]))
                refine grow_end (fun w' hr hf => ?_)
                clear hf
                have hbe := below_step BR.out (below_step (below_drew1 (Below.refl _ _)) hr)
                obtain ⟨rfl, rfl⟩ : [] = r1 ∧ 51 = r2 := by simpa using h
                clear h hr
                try rw [hle]
                go_wp2_with fail
                go_ret2
                exact ⟨none, 0, rfl, Nat.le_refl _, bytes_none _, hbe⟩
              | false =>
                rw [hle, if_neg (by simp)] at h
                have H := Aside0.mk h
                clear h
                refine wp_region_grow (fun a b => Below a.heap.size a b) (fun | 2 => some (fun v _ => v = .int .i64 0) | _ => none) (by kernel_rfl) (by kernel_rfl) (fun _ => Below.refl _ _) (fun _ _ _ => below_step) ?_ ?_
                · intro i V hV v w1 w2 hr hv
                  split at hV
                  · cases hV; exact hv
                  · cases hV
                simp only [List.zipIdx_cons, List.zipIdx_nil, Nat.zero_add, Nat.reduceAdd]
                iterate 2 (first | (refine grow_det ?_ rfl (fun w' => ?_) ?_; rotate_left 1; (have hwj := HWJ.out; have hjl := HJL.out; unfold Runs; go_simp; rfl); try simp only [Act.put, List.setIfInBounds_toArray, List.set_cons_zero, List.set_cons_succ]) | (refine grow_read ?_ rfl (fun w' hr _ => ?_) ?_; rotate_left 1; (have hwj := HWJ.out; have hjl := HJL.out; have g_z0 := (hr.cell (World.block_lt_of_cell? wR.drew _ z0)).trans z0; have g_z1 := (hr.cell (World.block_lt_of_cell? wR.drew _ z1)).trans z1; have g_y0 := (hr.cell (World.block_lt_of_cell? wR.drew _ y0)).trans y0; unfold Runs; go_simp; rfl); try simp only [Act.put, List.setIfInBounds_toArray, List.set_cons_zero, List.set_cons_succ]))
                refine grow_pred _ rfl (fun w' hr _ => ?_) (fun v => ?_)
                · have hcx := Kd.C_below Q5.out hr
                  unfold Gives gives
                  go_simp
                  refine (tables_Check.calls k a0 x.f0 A2 c2 x.f1 0 w' hcx q2 HCE.out).mono ?_
                  rintro e w'' ⟨rfl, bel⟩
                  first | exact ⟨_, rfl, bel, rfl⟩ | exact ⟨rfl, bel⟩ | exact bel | (simp; exact bel)
                try simp only [Act.put, List.setIfInBounds_toArray, List.set_cons_zero, List.set_cons_succ]
                refine grow_read (.bool false) rfl (fun w' hr hf => ?_) ?_
                · have h1 := hf 2 (by kernel_rfl)
                  rw [upd_self] at h1
                  subst h1
                  unfold Runs
                  go_simp
                try simp only [Act.put, List.setIfInBounds_toArray, List.set_cons_zero, List.set_cons_succ]
                iterate 15 (first | (refine grow_det ?_ rfl (fun w' => ?_) ?_; rotate_left 1; (have hwj := HWJ.out; have hjl := HJL.out; unfold Runs; go_simp; rfl); try simp only [Act.put, List.setIfInBounds_toArray, List.set_cons_zero, List.set_cons_succ]) | (refine grow_read ?_ rfl (fun w' hr _ => ?_) ?_; rotate_left 1; (have hwj := HWJ.out; have hjl := HJL.out; have g_z0 := (hr.cell (World.block_lt_of_cell? wR.drew _ z0)).trans z0; have g_z1 := (hr.cell (World.block_lt_of_cell? wR.drew _ z1)).trans z1; have g_y0 := (hr.cell (World.block_lt_of_cell? wR.drew _ y0)).trans y0; unfold Runs; go_simp; rfl); try simp only [Act.put, List.setIfInBounds_toArray, List.set_cons_zero, List.set_cons_succ]))
                refine grow_end (fun w' hr hf => ?_)
                clear hf
                have hbw : Below wR.heap.size wR w' := below_step (below_drew1 (Below.refl _ _)) hr
                have HBW := Aside0.mk (below_step BR.out hbw)
                have hbx := (hbw.block ga (Array.getElem?_eq_some_iff.1 BX.out).1).trans BX.out
                have HBX := Aside0.mk hbx
                have HBU := Aside0.mk (isBuilder_far BU.out hbw)
                have HQ := Aside0.mk (Kd.C_below (Kd.C_below Q4.out hbw) (below_drew1 (Below.refl _ w')))
                have h := H.out
                by_cases hlen : (rowText x).length ≤ 100000 ∧ x.f1.length ≤ 100000
                · rw [if_pos hlen] at h
                  have H2 := Aside0.mk h
                  obtain ⟨hl1, hl2⟩ := hlen
                  have HJ := Aside0.mk (show (Lib.join (x.f1.map (·.data.toList)) [58]).length ≤ 100000 by unfold rowText at hl1; simp only [List.length_append, List.length_cons] at hl1; omega)
                  have hj1 := HJ.out
                  have hl3 : x.f0.size ≤ 100000 := by unfold rowText at hl1; rw [List.length_append] at hl1; have h5 : x.f0.data.toList.length = x.f0.size := Array.length_toList ..; omega
                  have HZ1 := Aside0.mk (show ¬ 9223372036854775807 < x.f0.size + 1 by omega)
                  have HZ2 := Aside0.mk (show ¬ 9223372036854775807 < x.f0.size + 1 + (Lib.join (x.f1.map (·.data.toList)) [58]).length by omega)
                  have HZ3 := Aside0.mk (show ¬ 9223372036854775807 < x.f0.size + 1 + (Lib.join (x.f1.map (·.data.toList)) [58]).length + 1 by omega)
                  clear hj1
                  clear h H hr hbw hbx BX BU Q4 Q5 z0 z1
                  try rw [hle]
                  go_upto_region 11 with fail
                  have z0 : w'.cell? ⟨ga, 0, none⟩ = some (.string x.f0) := (cellOf HBX.out 0).trans rfl
                  have z1 : w'.cell? ⟨ga, 1, none⟩ = some (.slice A2 x.f1.length c2) := (cellOf HBX.out 1).trans rfl
                  obtain ⟨wR, hwR⟩ : ∃ q, q = w' := ⟨_, rfl⟩
                  rw [← hwR] at z0 z1 HQ HBU HBW ⊢
                  refine wp_region_growT 8 (fun a b => Below a.heap.size a b) (fun | 5 => some (fun v _ => v = .string ⟨(Lib.join (x.f1.map (·.data.toList)) [58]).toArray⟩) | _ => none) (by kernel_rfl) (by kernel_rfl) (by kernel_rfl) (by kernel_rfl) (by kernel_rfl) (fun _ => Below.refl _ _) (fun _ _ _ => below_step) ?_ ?_
                  · intro i V hV v w1 w2 hr hv
                    split at hV
                    · cases hV; exact hv
                    · cases hV
                  simp only [List.zipIdx_cons, List.zipIdx_nil, Nat.zero_add, Nat.reduceAdd, List.take_succ_cons, List.take_zero, List.drop_succ_cons, List.drop_zero]
                  iterate 5 (first | (refine grow_det ?_ rfl (fun w' => ?_) ?_; rotate_left 1; (have hz1 := HZ1.out; have hz2 := HZ2.out; have hz3 := HZ3.out; unfold Runs; go_simp; rfl); try simp only [Act.put, List.setIfInBounds_toArray, List.set_cons_zero, List.set_cons_succ]) | (refine grow_read ?_ rfl (fun w' hr _ => ?_) ?_; rotate_left 1; (have hz1 := HZ1.out; have hz2 := HZ2.out; have hz3 := HZ3.out; have g_z0 := (hr.cell (World.block_lt_of_cell? wR.drew _ z0)).trans z0; have g_z1 := (hr.cell (World.block_lt_of_cell? wR.drew _ z1)).trans z1; unfold Runs; go_simp; rfl); try simp only [Act.put, List.setIfInBounds_toArray, List.set_cons_zero, List.set_cons_succ]))
                  refine grow_pred _ rfl (fun w' hr _ => ?_) (fun v => ?_)
                  · have hcx := Kd.C_below HQ.out hr
                    unfold Gives gives
                    go_simp
                    refine (join_any hcx q2 hl2 HJ.out).mono ?_
                    rintro e w'' ⟨rfl, bel⟩
                    first | exact ⟨_, rfl, bel, rfl⟩ | exact ⟨rfl, bel⟩ | exact bel | (simp; exact bel)
                  try simp only [Act.put, List.setIfInBounds_toArray, List.set_cons_zero, List.set_cons_succ]
                  refine grow_read ?_ rfl (fun w' hr hf => ?_) ?_
                  rotate_left 1
                  · have h1 := hf 5 (by kernel_rfl)
                    rw [upd_self] at h1
                    subst h1
                    have hz1 := HZ1.out; have hz2 := HZ2.out; have hz3 := HZ3.out
                    unfold Runs
                    go_simp
                    rfl
                  try simp only [Act.put, List.setIfInBounds_toArray, List.set_cons_zero, List.set_cons_succ]
                  iterate 1 (first | (refine grow_det ?_ rfl (fun w' => ?_) ?_; rotate_left 1; (have hz1 := HZ1.out; have hz2 := HZ2.out; have hz3 := HZ3.out; unfold Runs; go_simp; rfl); try simp only [Act.put, List.setIfInBounds_toArray, List.set_cons_zero, List.set_cons_succ]) | (refine grow_read ?_ rfl (fun w' hr _ => ?_) ?_; rotate_left 1; (have hz1 := HZ1.out; have hz2 := HZ2.out; have hz3 := HZ3.out; have g_z0 := (hr.cell (World.block_lt_of_cell? wR.drew _ z0)).trans z0; have g_z1 := (hr.cell (World.block_lt_of_cell? wR.drew _ z1)).trans z1; unfold Runs; go_simp; rfl); try simp only [Act.put, List.setIfInBounds_toArray, List.set_cons_zero, List.set_cons_succ]))
                  refine grow_end (fun w4 hr hf => ?_)
                  clear hf
                  have hu4 := isBuilder_far HBU.out (below_step (below_drew1 (Below.refl _ _)) hr)
                  have hbw4 := below_step HBW.out (below_step (below_drew1 (Below.refl _ _)) hr)
                  have hw := builder_write w.heap.size b (Lib.byteCells s) (textOf x) w4 hu4 (by rw [Lib.byteCells_length, text_size]; omega) hbw4.size
                  have HWR := Aside0.mk hw
                  have HB4 := Aside0.mk hbw4
                  clear hw hu4 hbw4 hr z0 z1
                  go_wp2_with (go_at_call 27; refine HWR.out.mono ?_; rintro e w5 ⟨rfl, hu5, hb5⟩)
                  have hcc : Lib.byteCells s ++ Lib.strCells (textOf x) = Lib.byteCells (s ++ rowText x) := by rw [Lib.strCells_eq, text_row]; simp [Lib.byteCells]
                  rw [hcc] at hu5
                  have HU5 := Aside0.mk (show Lib.IsBuilder 51 5 w.heap.size b (Lib.byteCells (s ++ rowText x)) w5 from .inr hu5)
                  have HB5 := Aside0.mk (HB4.out.trans hb5)
                  clear hu5 hb5 hcc
                  go_roundw
                  case rel => exact ⟨(j + 1) + 1, s ++ rowText x, by go_num, by omega, by rw [List.length_append]; omega, H2, HU5, HB5⟩
                  case measure => first | (simp only [intOf]; omega) | (go_simp; omega) | omega
                · rw [if_neg hlen] at h
                  cases h
          · rw [if_pos he] at h
            have heb : (ce == 0) = false := by simpa using he
            refine wp_region_grow (fun a b => Below a.heap.size a b) (fun | 2 => some (fun v _ => v = .int .i64 ce) | _ => none) (by kernel_rfl) (by kernel_rfl) (fun _ => Below.refl _ _) (fun _ _ _ => below_step) ?_ ?_
            · intro i V hV v w1 w2 hr hv
              split at hV
              · cases hV; exact hv
              · cases hV
            simp only [List.zipIdx_cons, List.zipIdx_nil, Nat.zero_add, Nat.reduceAdd]
            iterate 2 (first | (refine grow_det ?_ rfl (fun w' => ?_) ?_; rotate_left 1; ( unfold Runs; go_simp; rfl); try simp only [Act.put, List.setIfInBounds_toArray, List.set_cons_zero, List.set_cons_succ]) | (refine grow_read ?_ rfl (fun w' hr _ => ?_) ?_; rotate_left 1; ( have g_z0 := (hr.cell (World.block_lt_of_cell? wR.drew _ z0)).trans z0; have g_z1 := (hr.cell (World.block_lt_of_cell? wR.drew _ z1)).trans z1; unfold Runs; go_simp; rfl); try simp only [Act.put, List.setIfInBounds_toArray, List.set_cons_zero, List.set_cons_succ]))
            refine grow_pred _ rfl (fun w' hr _ => ?_) (fun v => ?_)
            · have hcx := Kd.C_below Q5.out hr
              unfold Gives gives
              go_simp
              refine (tables_Check.calls k a0 x.f0 A2 c2 x.f1 ce w' hcx q2 HCE.out).mono ?_
              rintro e w'' ⟨rfl, bel⟩
              first | exact ⟨_, rfl, bel, rfl⟩ | exact ⟨rfl, bel⟩ | exact bel | (simp; exact bel)
            try simp only [Act.put, List.setIfInBounds_toArray, List.set_cons_zero, List.set_cons_succ]
            refine grow_read (.bool true) rfl (fun w' hr hf => ?_) ?_
            · have h1 := hf 2 (by kernel_rfl)
              rw [upd_self] at h1
              subst h1
              unfold Runs
              go_simp
            try simp only [Act.put, List.setIfInBounds_toArray, List.set_cons_zero, List.set_cons_succ]
            iterate 15 (first | (refine grow_det ?_ rfl (fun w' => ?_) ?_; rotate_left 1; ( unfold Runs; go_simp; rfl); try simp only [Act.put, List.setIfInBounds_toArray, List.set_cons_zero, List.set_cons_succ]) | (refine grow_read ?_ rfl (fun w' hr _ => ?_) ?_; rotate_left 1; ( have g_z0 := (hr.cell (World.block_lt_of_cell? wR.drew _ z0)).trans z0; have g_z1 := (hr.cell (World.block_lt_of_cell? wR.drew _ z1)).trans z1; unfold Runs; go_simp; rfl); try simp only [Act.put, List.setIfInBounds_toArray, List.set_cons_zero, List.set_cons_succ]))
            refine grow_end (fun w' hr hf => ?_)
            clear hf
            have hbe := below_step BR.out (below_step (below_drew1 (Below.refl _ _)) hr)
            obtain ⟨rfl, rfl⟩ : [] = r1 ∧ 51 = r2 := by simpa using h
            clear h hr
            try rw [hle]
            go_wp2_with fail
            go_ret2
            exact ⟨none, 0, rfl, Nat.le_refl _, bytes_none _, hbe⟩
--POOL
        · have hii : ¬ (i : Int) < (l1.length : Int) := by omega
          obtain rfl : i = l1.length := by omega
          have h := hH.out
          rw [Nat.sub_self] at h
          unfold tables_Print.l0 at h
          have h := Option.some.inj h
          have hlen := Lib.byteCells_length s
          by_cases hbig : 2432 < s.length
          · rw [if_pos hbig] at h
            obtain ⟨rfl, rfl⟩ : [] = r1 ∧ 5 = r2 := by simpa using h
            have hbi : (2432 : Int) < (s.length : Int) := by omega
            clear h hH
            go_wp2_with (go_at_call 29; refine (Tryd.Builder_Len w.heap.size b (Lib.byteCells s) wr hBu.out).mono ?_; rintro e w' ⟨rfl, rfl⟩; rw [hlen])
            go_ret2
            exact ⟨none, 0, rfl, Nat.le_refl _, bytes_none _, hBe.out⟩
          · rw [if_neg hbig] at h
            obtain ⟨rfl, rfl⟩ : numsOf s = r1 ∧ 0 = r2 := by simpa using h
            have hbi : ¬ (2432 : Int) < (s.length : Int) := by omega
            clear h hH
            go_wp2_with (first | (go_at_call 29; refine (Tryd.Builder_Len w.heap.size b (Lib.byteCells s) wr hBu.out).mono ?_; rintro e w' ⟨rfl, rfl⟩; rw [hlen]) | (go_at_call 30; refine (Tryd.Builder_String_any w.heap.size b s w' hBu.out hBe.out.size).mono ?_; rintro e w6 ⟨rfl, hb6⟩))
            rw [Lib.run_convert_string_bytes (P := Tryd.prog) w6 9 25 5 ⟨s.toArray⟩ Tryd.underlying9 Tryd.underlying25 Tryd.underlying5]
            go_wp2_with fail
            have hnl : (numsOf s).length = s.length := by unfold numsOf; rw [List.length_map]
            have hrow := bytesWorld_row w6 5 s (by omega)
            have hcap : (numsOf s).length ≤ grownCap w6 s.length 0 5 := by
              rw [hnl]
              exact grownCap_ge w6 s.length 0 5
            go_ret2
            exact ⟨some ⟨w6.heap.size, 0, none⟩, grownCap w6 s.length 0 5, by rw [hnl]; rfl, hcap, hrow, (hBe.out.trans hb6).trans ((bytesWorld_below w6 _ _).mono (hBe.out.trans hb6).size)⟩
--END Print
end Go.Proofs.YtiobdnnijbfdhaaDoor.PT
