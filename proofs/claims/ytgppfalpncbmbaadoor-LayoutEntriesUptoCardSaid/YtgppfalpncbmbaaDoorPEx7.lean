-- printed by wip/printx (a program of this session's, over the kit's print)
import Derived.Test.YtgppfalpncbmbaaDoorPEx0
import Derived.Test.YtgppfalpncbmbaaDoorPEx2
namespace Go.Proofs.YtgppfalpncbmbaaDoor.PE
open Go.RowKit Go.Proofs.YtgppfalpncbmbaaDoorW.PrintWords Go.Proofs.YtgppfalpncbmbaaDoorW.PrintLast Go.Proofs.YtgppfalpncbmbaaDoorW.PrintMore
attribute [local go_sem] max2_int min2_int max_two min_two max_three min_three max_four min_four Go.Proofs.YtgppfalpncbmbaaDoor.PxMore.isSome_setCell   -- for this text's walks alone
set_option linter.unusedVariables false
set_option linter.unusedSimpArgs false

/-! ### layout_PutEntries: function 22 -/

/-- The text that may stand behind another one. -/
def entOk (l : List S47) (j : Nat) : Bool :=
  decide (1 ≤ (rd_T47 l j).f0) && decide ((rd_T47 l j).f0 < 64) && decide (layout_Name.f (rd_T47 l j).f1 = some true) && (decide (j = 0) || Op.bytesLess (rd_T47 l ((j : Int) - 1)).f1.toList (rd_T47 l j).f1.toList)
def entB (x : S47) : List Int := [x.f0 % 256, (x.f1.size : Int) % 256] ++ bytesOf x.f1 ++ List.replicate (30 - x.f1.size) 0
def layout_PutEntries.f (l0 : List S47) : Option (List Int × Int) :=
  if l0.length > 16 then some ([], 5) else if (List.range l0.length).all (entOk l0) then some (l0.flatMap entB, 0) else some ([], 1)
theorem name_tot (a : ByteArray) : ∃ b, layout_Name.f a = some b := by
  unfold layout_Name.f
  split
  · exact ⟨_, rfl⟩
  · split
    · split
      · exact ⟨_, rfl⟩
      · split
        · exact ⟨_, rfl⟩
        · unfold strings_Trim.f
          rw [if_pos ⟨by omega, by decide, by decide⟩]
          exact ⟨_, rfl⟩
    · exact ⟨_, rfl⟩
theorem name_len {a : ByteArray} (h : layout_Name.f a = some true) : a.size ≤ 28 := by
  unfold layout_Name.f at h
  split at h
  · simp at h
  · split at h
    · omega
    · simp at h
/-- The row behind the first entries. -/
def entRow (l : List S47) (j : Nat) : List Int := (l.take j).flatMap entB ++ List.replicate (32 * (l.length - j)) 0
structure ESt (w wr : World) (l : List S47) (g j : Nat) : Prop where
  row : wr.heap[g]? = some (.cells (nums .u8 (entRow l j)).toArray 5 (0, 0))
  bel : Below w.heap.size w wr
  ge : w.heap.size ≤ g
  le : j ≤ l.length
  ok : ∀ k, k < j → entOk l k = true
theorem ESt.later {w wr w2 : World} {l : List S47} {g j : Nat} (h : ESt w wr l g j) (hb : Below wr.heap.size wr w2) : ESt w w2 l g j :=
  ⟨(hb.block g (Array.getElem?_eq_some_iff.1 h.row).1).trans h.row, below_step h.bel hb, h.ge, h.le, h.ok⟩
/-- The row, while the first two bytes of an entry are stored. -/
def stage (l : List S47) (j : Nat) (a b : Int) : Nat → List Int
  | 0 => entRow l j
  | 1 => (entRow l j).set (32 * j) a
  | _ => ((entRow l j).set (32 * j) a).set (32 * j + 1) b
def StL (w : World) (g : Nat) (L : List Int) : Prop := w.heap[g]? = some (.cells (nums .u8 L).toArray 5 (0, 0))
def SRel (l : List S47) (g j : Nat) (a b : Int) (w1 w2 : World) : Prop := w1.grownBy w2 (some g) ∧ ∀ k, k ≤ 2 → StL w1 g (stage l j a b k) → ∃ k', k ≤ k' ∧ k' ≤ 2 ∧ StL w2 g (stage l j a b k')
theorem SRel.refl {l : List S47} {g j : Nat} {a b : Int} (w : World) : SRel l g j a b w w := ⟨World.grownBy.refl _ _, fun k hk h => ⟨k, Nat.le_refl _, hk, h⟩⟩
theorem SRel.trans {l : List S47} {g j : Nat} {a b : Int} {w1 w2 w3 : World} (h : SRel l g j a b w1 w2) (k : SRel l g j a b w2 w3) : SRel l g j a b w1 w3 := by
  refine ⟨h.1.trans k.1, fun i hi hs => ?_⟩
  obtain ⟨i2, h1, h2, h3⟩ := h.2 i hi hs
  obtain ⟨i3, h4, h5, h6⟩ := k.2 i2 h2 h3
  exact ⟨i3, Nat.le_trans h1 h4, h5, h6⟩
theorem SRel.drew {l : List S47} {g j : Nat} {a b : Int} (w : World) : SRel l g j a b w w.drew := ⟨⟨rfl, rfl, rfl, Nat.le_refl _, fun _ _ _ => rfl⟩, fun k hk h => ⟨k, Nat.le_refl _, hk, h⟩⟩
theorem nums_set (L : List Int) (i : Nat) (v : Int) : nums .u8 (L.set i v) = (nums .u8 L).set i (.int .u8 v) := by unfold nums; rw [List.map_set]
theorem StL.put {w : World} {g : Nat} {L : List Int} (h : StL w g L) (i : Nat) (v : Int) : StL (w.setCell ⟨g, i, none⟩ (.int .u8 v)) g (L.set i v) := by
  unfold StL at h ⊢
  rw [nums_set]
  simp [World.setCell, Array.getElem?_modify, h]
theorem StL.cell {w : World} {g : Nat} {L : List Int} (h : StL w g L) (i : Nat) (hi : i < L.length) : w.cell? ⟨g, i, none⟩ = some (.int .u8 L[i]) := by
  unfold StL at h
  simp [World.cell?, h, nums, List.getElem?_eq_getElem hi]
theorem StL.frozen {w : World} {g : Nat} {L : List Int} (h : StL w g L) (i : Nat) : w.frozen? ⟨g, i, none⟩ = false := by
  unfold StL at h
  simp [World.frozen?, h]
theorem stage_len (l : List S47) (j : Nat) (a b : Int) (k : Nat) : (stage l j a b k).length = (entRow l j).length := by
  unfold stage
  split <;> simp
theorem grown_put {w : World} {g i : Nat} {v : Value} : w.grownBy (w.setCell ⟨g, i, none⟩ v) (some g) := Lib.grownBy_setCell w g i v
theorem step_a {l : List S47} {g j : Nat} {a b : Int} {w : World} {k : Nat} (hk : k ≤ 2) (h : StL w g (stage l j a b k)) : SRel l g j a b w (w.setCell ⟨g, 32 * j, none⟩ (.int .u8 a)) ∧ ∃ k', 1 ≤ k' ∧ k' ≤ 2 ∧ StL (w.setCell ⟨g, 32 * j, none⟩ (.int .u8 a)) g (stage l j a b k') := by
  have hp : ∀ k, k ≤ 2 → StL w g (stage l j a b k) → ∃ k', k ≤ k' ∧ 1 ≤ k' ∧ k' ≤ 2 ∧ StL (w.setCell ⟨g, 32 * j, none⟩ (.int .u8 a)) g (stage l j a b k') := by
    intro k hk h
    have hc : k = 0 ∨ k = 1 ∨ k = 2 := by omega
    rcases hc with rfl | rfl | rfl
    · exact ⟨1, by omega, by omega, by omega, h.put (32 * j) a⟩
    · refine ⟨1, by omega, by omega, by omega, ?_⟩
      have := h.put (32 * j) a
      simpa [stage] using this
    · refine ⟨2, by omega, by omega, by omega, ?_⟩
      have := h.put (32 * j) a
      simp only [stage] at this
      rw [List.set_comm _ _ (show 32 * j + 1 ≠ 32 * j by omega), List.set_set] at this
      exact this
  refine ⟨⟨grown_put, fun k hk h => ?_⟩, ?_⟩
  · obtain ⟨k', h1, _, h3, h4⟩ := hp k hk h
    exact ⟨k', h1, h3, h4⟩
  · obtain ⟨k', _, h2, h3, h4⟩ := hp k hk h
    exact ⟨k', h2, h3, h4⟩
theorem step_b {l : List S47} {g j : Nat} {a b : Int} {w : World} {k : Nat} (h1 : 1 ≤ k) (hk : k ≤ 2) (h : StL w g (stage l j a b k)) : SRel l g j a b w (w.setCell ⟨g, 32 * j + 1, none⟩ (.int .u8 b)) ∧ StL (w.setCell ⟨g, 32 * j + 1, none⟩ (.int .u8 b)) g (stage l j a b 2) := by
  have h2 : StL (w.setCell ⟨g, 32 * j + 1, none⟩ (.int .u8 b)) g (stage l j a b 2) := by
    have hc : k = 1 ∨ k = 2 := by omega
    rcases hc with rfl | rfl
    · exact h.put (32 * j + 1) b
    · have := h.put (32 * j + 1) b
      simp only [stage] at this
      rw [List.set_set] at this
      exact this
  exact ⟨⟨grown_put, fun k hk _ => ⟨2, hk, Nat.le_refl _, h2⟩⟩, h2⟩
theorem entB_len {x : S47} (h : x.f1.size ≤ 30) : (entB x).length = 32 := by
  unfold entB
  rw [List.length_append, List.length_append, bytesOf_length, List.length_replicate]
  simp only [List.length_cons, List.length_nil]
  omega
/-- An entry's bytes, and the row behind it. -/
theorem ents_len {l : List S47} : ∀ (j : Nat), j ≤ l.length → (∀ k, k < j → entOk l k = true) → ((l.take j).flatMap entB).length = 32 * j := by
  intro j
  induction j with
  | zero => intro _ _; rfl
  | succ j ih =>
    intro hj hk
    have hlt : j < l.length := by omega
    rw [List.take_add_one, List.getElem?_eq_getElem hlt, List.flatMap_append, List.length_append, ih (by omega) (fun k h => hk k (by omega))]
    have ho := hk j (by omega)
    have hn : layout_Name.f l[j].f1 = some true := by
      unfold entOk at ho
      simp only [Bool.and_eq_true, decide_eq_true_eq] at ho
      have hr : rd_T47 l (j : Int) = l[j] := by
        unfold rd_T47
        rw [Int.toNat_natCast, List.getD_eq_getElem?_getD, List.getElem?_eq_getElem hlt]
        rfl
      rw [hr] at ho
      exact ho.1.2
    have hs := name_len hn
    simp only [Option.toList_some, List.flatMap_cons, List.flatMap_nil, List.append_nil]
    rw [entB_len (by omega)]
    omega
theorem ESt.len {w wr : World} {l : List S47} {g j : Nat} (h : ESt w wr l g j) : (entRow l j).length = 32 * l.length := by
  have hl := h.le
  unfold entRow
  rw [List.length_append, ents_len j h.le h.ok, List.length_replicate]
  omega
theorem ESt.isS {w wr : World} {l : List S47} {g j i : Nat} (h : ESt w wr l g j) (hi : i < 32 * l.length) : ∃ q, wr.cell? ⟨g, i, none⟩ = some (.int .u8 q) := by
  have hl := h.len
  have hlt : i < (entRow l j).length := by omega
  refine ⟨(entRow l j)[i], ?_⟩
  simp [World.cell?, h.row, nums, List.getElem?_eq_getElem hlt]
theorem ESt.frozen {w wr : World} {l : List S47} {g j : Nat} (h : ESt w wr l g j) (i : Nat) : wr.frozen? ⟨g, i, none⟩ = false := by
  simp [World.frozen?, h.row]
theorem ESt.st {w wr : World} {l : List S47} {g j : Nat} (h : ESt w wr l g j) (a b : Int) : StL wr g (stage l j a b 0) := h.row
theorem box0 {w1 w2 : World} {g gb : Nat} {a : Int} {b : ByteArray} {t : TypeId} (h : w1.grownBy w2 (some g)) (hb : w1.heap[gb]? = some (.cells #[.int .i64 a, .string b] t (0, 0))) (hne : gb ≠ g) : w2.cell? ⟨gb, 0, none⟩ = some (.int .i64 a) := by
  have := (h.block gb (Array.getElem?_eq_some_iff.1 hb).1 (by simpa using hne)).trans hb
  simp [World.cell?, this]
theorem box1 {w1 w2 : World} {g gb : Nat} {a : Int} {b : ByteArray} {t : TypeId} (h : w1.grownBy w2 (some g)) (hb : w1.heap[gb]? = some (.cells #[.int .i64 a, .string b] t (0, 0))) (hne : gb ≠ g) : w2.cell? ⟨gb, 1, none⟩ = some (.string b) := by
  have := (h.block gb (Array.getElem?_eq_some_iff.1 hb).1 (by simpa using hne)).trans hb
  simp [World.cell?, this]
theorem nums_splice (L B : List Int) (off : Nat) : splice (nums .u8 L) off (nums .u8 B) = nums .u8 (splice L off B) := by
  unfold splice nums
  rw [List.length_map, List.map_append, List.map_append, List.map_take, List.map_drop]
theorem ok_name {l : List S47} {j : Nat} (h : entOk l j = true) : (rd_T47 l (j : Int)).f1.size ≤ 28 ∧ 1 ≤ (rd_T47 l (j : Int)).f0 ∧ (rd_T47 l (j : Int)).f0 < 64 := by
  unfold entOk at h
  simp only [Bool.and_eq_true, decide_eq_true_eq] at h
  exact ⟨name_len h.1.2, h.1.1.1, h.1.1.2⟩
theorem rd_get47 {l : List S47} {j : Nat} (h : j < l.length) : rd_T47 l (j : Int) = l[j] := by
  unfold rd_T47
  rw [Int.toNat_natCast, List.getD_eq_getElem?_getD, List.getElem?_eq_getElem h]
  rfl
/-- The row behind an entry. -/
theorem next_row {l : List S47} {j : Nat} (hj : j < l.length) (hk : ∀ k, k < j → entOk l k = true) (ho : entOk l j = true) (x : S47) (hx : rd_T47 l (j : Int) = x) :
    splice (nums .u8 (stage l j (x.f0 % 256) ((x.f1.size : Int) % 256) 2)) (32 * j + 2) (Lib.byteCells x.f1.data.toList) = nums .u8 (entRow l (j + 1)) := by
  have hs := (ok_name ho).1
  rw [hx] at hs
  have hpre := ents_len j (by omega) hk
  have hb : Lib.byteCells x.f1.data.toList = nums .u8 (bytesOf x.f1) := by
    unfold Lib.byteCells nums bytesOf
    rw [List.map_map]
    rfl
  rw [hb, nums_splice]
  congr 1
  have he : entRow l (j + 1) = (l.take j).flatMap entB ++ (entB x ++ List.replicate (32 * (l.length - (j + 1))) 0) := by
    unfold entRow
    rw [List.take_add_one, List.getElem?_eq_getElem hj, List.flatMap_append, ← rd_get47 hj, hx, List.append_assoc]
    simp
  rw [he, show stage l j (x.f0 % 256) ((x.f1.size : Int) % 256) 2 = ((entRow l j).set (32 * j) (x.f0 % 256)).set (32 * j + 1) ((x.f1.size : Int) % 256) from rfl]
  unfold entRow
  generalize (l.take j).flatMap entB = pre at hpre
  obtain ⟨m, hm⟩ : ∃ m, 32 * (l.length - j) = m + 1 + 1 := ⟨32 * (l.length - j) - 2, by omega⟩
  rw [hm, List.replicate_succ, List.replicate_succ, List.set_append_right _ _ (by omega), hpre, Nat.sub_self, List.set_cons_zero, List.set_append_right _ _ (by omega), hpre, show 32 * j + 1 - 32 * j = 0 + 1 by omega, List.set_cons_succ, List.set_cons_zero]
  unfold splice entB
  have e1 : (pre ++ x.f0 % 256 :: (x.f1.size : Int) % 256 :: List.replicate m 0).take (32 * j + 2) = pre ++ [x.f0 % 256, (x.f1.size : Int) % 256] := by
    rw [List.take_append, hpre, List.take_of_length_le (by omega), show 32 * j + 2 - 32 * j = 2 by omega]
    rfl
  have e2 : (pre ++ x.f0 % 256 :: (x.f1.size : Int) % 256 :: List.replicate m 0).drop (32 * j + 2 + (bytesOf x.f1).length) = List.replicate (m - x.f1.size) 0 := by
    rw [List.drop_append, hpre, List.drop_eq_nil_of_le (by omega), List.nil_append, bytesOf_length, show 32 * j + 2 + x.f1.size - 32 * j = x.f1.size + 1 + 1 by omega, List.drop_succ_cons, List.drop_succ_cons, List.drop_replicate]
  rw [e1, e2]
  simp only [List.append_assoc, List.cons_append, List.nil_append]
  rw [List.replicate_append_replicate]
  congr 5
  omega
theorem hszU8 : (Tryd.prog.info? 5).map (·.size) = some 1 := by kernel_rfl
theorem wpList_copy_str {P : Program} {w : World} {ops : Array Oper} {rest : List Oper} {o : Oper} {a : Act} {Q : Exit → Act → World → Prop} (hgd : o.guard = none) (d s : Operand) (dT sT : TypeId)
    (ho : o.op = .call { callee := .builtin .copy, args := #[d, s], argTypes := #[dT, sT] }) (elem : TypeId) (hu : P.underlying dT = some (.slice elem)) (hsz : (P.info? elem).map (·.size) = some 1)
    (g off dLen dCap : Nat) (y : ByteArray) (hd : a.eval d = .slice (some ⟨g, off, none⟩) dLen dCap) (hs : a.eval s = .string y)
    (cur : Array Value) (t : TypeId) (hg : w.heap[g]? = some (.cells cur t (0, 0))) (hle : y.size ≤ dLen) (hfit : off + y.size ≤ cur.size)
    (h : wpList P ops Q rest (a.put o.dst (goInt y.size)) (w.setRow g (cur.toList.take off ++ Lib.byteCells y.data.toList ++ cur.toList.drop (off + y.size)).toArray)) : wpList P ops Q (o :: rest) a w := by
  refine wpList_plain hgd fun K hK => ?_
  have hrun := Lib.run_copy_row_string (P := P) w dT sT o.type elem g off dLen dCap y cur t hu hsz hg hle hfit
  unfold Oper.wp
  simp [execOp, ho, resolve, invoke, builtin, hd, hs, hrun, Result.andThen]
  have hz := hK _ _ h
  simp only [List.append_assoc] at hz
  simpa [Oper.upon] using hz
theorem ESt.next {w w1 w4 : World} {l : List S47} {g j n : Nat} {x : S47} (h : ESt w w1 l g j) (hlt : j < n) (hn : l.length = n) (hok : entOk l j = true) (hx : rd_T47 l (j : Int) = x) (hb : Below w.heap.size w w4)
    (hg : w4.heap[g]? = some (.cells (nums .u8 (stage l j (x.f0 % 256) ((x.f1.size : Int) % 256) 2)).toArray 5 (0, 0))) :
    ESt w (w4.setRow g ((nums .u8 (stage l j (x.f0 % 256) ((x.f1.size : Int) % 256) 2)).toArray.toList.take (32 * j + 2) ++ Lib.byteCells x.f1.data.toList ++ (nums .u8 (stage l j (x.f0 % 256) ((x.f1.size : Int) % 256) 2)).toArray.toList.drop (32 * j + 2 + x.f1.size)).toArray) l g (j + 1) := by
  have hr := next_row (by omega) h.ok hok x hx
  have hbl : (Lib.byteCells x.f1.data.toList).length = x.f1.size := by simp [Lib.byteCells]
  unfold splice at hr
  rw [hbl, ← List.append_assoc] at hr
  refine ⟨?_, below_setRow hb h.ge _, h.ge, by omega, fun k hk => ?_⟩
  · rw [List.toList_toArray, hr]
    exact setRow_heap w4 g _ _ _ _ hg
  · by_cases e : k = j
    · subst e; exact hok
    · exact h.ok k (by omega)
theorem leq_not : ∀ a b : List UInt8, (Op.bytesLess a b || a == b) = !Op.bytesLess b a := by
  intro a
  induction a with
  | nil =>
    intro b
    cases b with
    | nil => rfl
    | cons y b => simp [Op.bytesLess]
  | cons x a ih =>
    intro b
    cases b with
    | nil => simp [Op.bytesLess]
    | cons y b =>
      have h := ih b
      simp only [Op.bytesLess]
      by_cases h1 : x < y
      · have h2 : ¬ y < x := fun h => UInt8.lt_asymm h1 h
        have h3 : ¬ y = x := fun h => by rw [h] at h1; exact UInt8.lt_irrefl _ h1
        simp [h1, h2, h3]
      · by_cases h2 : y < x
        · have h3 : ¬ x = y := fun h => by rw [h] at h2; exact UInt8.lt_irrefl _ h2
          simp [h1, h2, h3]
        · have h3 : x = y := UInt8.le_antisymm (UInt8.not_lt.1 h2) (UInt8.not_lt.1 h1)
          subst h3
          simp only [h1, decide_false, Bool.false_or, beq_self_eq_true, Bool.true_and]
          rw [← h]
          simp
theorem ESt.done {w wr : World} {l : List S47} {g j : Nat} (h : ESt w wr l g j) (hj : l.length = j) (hn : j ≤ 16) : Kd.R (Kd.int .u8) 5 wr w.heap.size (fun _ => True) (.slice (some ⟨g, 0, none⟩) (32 * j) (32 * j)) (l.flatMap entB) := by
  have hr := h.row
  have he : entRow l j = l.flatMap entB := by unfold entRow; rw [hj, Nat.sub_self, Nat.mul_zero, List.replicate_zero, List.append_nil, ← hj, List.take_length]
  have hl : (l.flatMap entB).length = 32 * j := by
    have := ents_len j h.le h.ok
    rwa [← hj, List.take_length, hj] at this
  rw [he] at hr
  refine Kd.R_of_own (enc := Value.int .u8) ?_ (fun _ _ => trivial)
  rw [hl]
  refine ⟨by rw [encs_length, hl, Nat.mul_one], .inr ⟨g, 32 * j, _, rfl, h.ge, hr, Nat.le_refl _, by unfold maxLen; omega, ?_, ?_⟩⟩
  · rw [List.size_toArray, nums_length, hl, Nat.mul_one]
  · rw [List.toList_toArray, Nat.mul_one, List.take_of_length_le (by rw [nums_length, hl]; exact Nat.le_refl _)]
    rfl
theorem ent_made (l : List S47) : (nums .u8 (entRow l 0)).toArray = madeCells (Value.cells (.int .u8 0)) (32 * l.length) := by
  unfold entRow
  rw [List.take_zero, List.flatMap_nil, List.nil_append, Nat.sub_zero]
  apply Array.ext'
  apply List.ext_getElem
  · simp [madeCells, nums]
  · intro i h1 h2
    simp [madeCells, nums, Value.cells, Nat.mod_one]
set_option maxHeartbeats 4000000 in
set_option maxRecDepth 100000 in
theorem layout_PutEntries.calls (A0 : Option Addr) (c0 : Nat) (l0 : List S47) (r1 : List Int) (r2 : Int) (w : World) (hr0 : Kd.C k47 w A0 l0.length l0) (hc0 : l0.length ≤ c0) (h : layout_PutEntries.f l0 = some (r1, r2)) :
    Calls Tryd.prog 22 #[.slice A0 l0.length c0] w fun e w' => ∃ v0_ : Value, e = .returned (.tuple #[v0_, .int .i64 r2]) ∧ Kd.R (Kd.int .u8) 5 w' w.heap.size (fun _ => True) v0_ r1 ∧ Below w.heap.size w w' := by
  have hu := Tryd.underlying47
  have HR := Aside0.mk hr0
  have HC := Aside0.mk hc0
  clear hr0 hc0
  unfold layout_PutEntries.f at h
  by_cases h16 : l0.length > 16
  · rw [if_pos h16] at h
    simp only [Option.some.injEq, Prod.mk.injEq] at h
    obtain ⟨rfl, rfl⟩ := h
    have hgt : 16 < (l0.length : Int) := by omega
    go_enter Tryd.func22, Tryd.ntmps22
    go_wp2
    refine bodyPost_ret (results_tmp2 rfl _ _ _) rfl ?_
    exact ⟨_, rfl, Kd.R_nil _ _ _ _ _, by repeat (first | exact Below.refl _ _ | apply below_alloc | apply pw_below_drewN | apply below_drew1)⟩
  · rw [if_neg h16] at h
    have hn : l0.length ≤ 16 := by omega
    have hng : ¬ 16 < (l0.length : Int) := by omega
    have H := Aside0.mk h
    clear h
    obtain ⟨n, hln⟩ : ∃ n, l0.length = n := ⟨_, rfl⟩
    have w32 : IntKind.i64.wrap (32 * (n : Int)) = ((32 * n : Nat) : Int) := by
      unfold IntKind.wrap
      simp [IntKind.bits, IntKind.signed]
      omega
    rw [hln] at hn hng ⊢
    have hmk : ∀ w : World, (Instr.makeSlice 40 (.int .i64 (32 * (n : Int))) (.int .i64 (32 * (n : Int)))).run Tryd.prog w = .ok (.slice (some ⟨w.heap.size, 0, none⟩) (32 * n) (32 * n)) (w.alloc (.cells (nums .u8 (entRow l0 0)).toArray 5)) := fun w => by
      rw [ent_made, hln]
      obtain ⟨i0, hi, hzz⟩ := Option.map_eq_some_iff.1 info5
      simp only [Prod.mk.injEq] at hzz
      obtain ⟨hz0, hz1, hz2⟩ := hzz
      have := run_makeSlice (P := Tryd.prog) w 40 5 i0 (.int .u8 0) Tryd.underlying40 hi hz0 .i64 .i64 (32 * (n : Int)) (32 * (n : Int)) (by omega) (by omega) (by rw [hz1]; omega) (by rw [hz2]; omega) (by omega)
      rw [this, hz1, show (32 * (n : Int)).toNat = 32 * n by omega, Nat.mul_one]
    go_enter Tryd.func22, Tryd.ntmps22
    go_wp2
    obtain ⟨g, hg⟩ : ∃ g, w.heap.size = g := ⟨_, rfl⟩
    have E0 := Aside0.mk (show ESt w (w.alloc (.cells (nums .u8 (entRow l0 0)).toArray 5)) l0 g 0 from ⟨by rw [← hg]; exact blk_new _ _, below_alloc (Below.refl _ _) _, by omega, Nat.zero_le _, fun k hk => by omega⟩)
    rw [hg]
    clear hmk
    go_loopw [17] (fun i wr => ∃ j : Nat, i = .int .i64 j ∧ ESt w wr l0 g j) (fun i _ => n - (Lib.intOf i).toNat)
    case atStart => exact ⟨0, rfl, E0.out⟩
    case round =>
      obtain ⟨j, rfl, hE⟩ := hrel
      have hk := hE.ok
      have hle := hE.le
      by_cases hlt : j < n
      · have hlt' : (j : Int) < (n : Int) := by omega
        obtain ⟨ad, ead, hc0, hc1⟩ := at_T47 (Kd.C_below HR.out hE.bel) (j : Int) (by omega) (by omega)
        subst ead
        rw [Int.toNat_natCast] at hc0 hc1
        obtain ⟨x, hx⟩ : ∃ x, rd_T47 l0 (j : Int) = x := ⟨_, rfl⟩
        rw [hx] at hc0 hc1
        have E1 := Aside0.mk hE
        have HK := Aside0.mk hk
        clear hE hk E0
        go_wp2
        obtain ⟨gb, hgb⟩ : ∃ gb, wr.heap.size = gb := ⟨_, rfl⟩
        obtain ⟨w1, hw1⟩ : ∃ w1, wr.alloc (.cells #[.int .i64 x.f0, .string x.f1] 47) = w1 := ⟨_, rfl⟩
        have hb0 : w1.heap[gb]? = some (.cells #[.int .i64 x.f0, .string x.f1] 47 (0, 0)) := by rw [← hw1, ← hgb]; exact blk_new _ _
        have hx0 : w1.cell? ⟨gb, 0, none⟩ = some (.int .i64 x.f0) := by simp [World.cell?, hb0]
        have hx1 : w1.cell? ⟨gb, 1, none⟩ = some (.string x.f1) := by simp [World.cell?, hb0]
        have E2 := Aside0.mk (show ESt w w1 l0 g j from E1.out.later (by rw [← hw1]; exact below_alloc (Below.refl _ _) _))
        have hgne : gb ≠ g := by have := (Array.getElem?_eq_some_iff.1 E1.out.row).1; omega
        rw [hgb, hw1]
        clear hc0 hc1 E1
        obtain ⟨b, hb⟩ := name_tot x.f1
        have HN := Aside0.mk hb
        clear hb
        by_cases c1 : x.f0 < 1
        · have c1d : decide (x.f0 < 1) = true := decide_eq_true c1
          refine wp_region_grow (fun a b => Below a.heap.size a b) (fun | 11 => some (fun v _ => v = undef) | _ => none) (by kernel_rfl) (by kernel_rfl) (fun _ => Below.refl _ _) (fun _ _ _ => below_step) ?_ ?_
          · intro i V hV v w1 w2 hr hv
            split at hV
            · cases hV; exact hv
            · cases hV
          simp only [List.zipIdx_cons, List.zipIdx_nil, Nat.zero_add, Nat.reduceAdd]
          iterate 11 (first | (refine grow_det ?_ rfl (fun w' => ?_) ?_; rotate_left 1; (unfold Runs; go_simp; rfl); try simp only [Act.put, List.setIfInBounds_toArray, List.set_cons_zero, List.set_cons_succ]) | (refine grow_read ?_ rfl (fun w' hr _ => ?_) ?_; rotate_left 1; (have g0 := (hr.cell (World.block_lt_of_cell? w1.drew _ hx0)).trans hx0; have g1 := (hr.cell (World.block_lt_of_cell? w1.drew _ hx1)).trans hx1;  unfold Runs; go_simp; rfl); try simp only [Act.put, List.setIfInBounds_toArray, List.set_cons_zero, List.set_cons_succ]))
          refine grow_pred _ rfl (fun w' hr _ => ?_) (fun v => ?_)
          · unfold Gives
            go_simp
            exact Below.refl _ _
          try simp only [Act.put, List.setIfInBounds_toArray, List.set_cons_zero, List.set_cons_succ]
          iterate 17 (first | (refine grow_det ?_ rfl (fun w' => ?_) ?_; rotate_left 1; (unfold Runs; go_simp; rfl); try simp only [Act.put, List.setIfInBounds_toArray, List.set_cons_zero, List.set_cons_succ]) | (refine grow_read ?_ rfl (fun w' hr _ => ?_) ?_; rotate_left 1; (have g0 := (hr.cell (World.block_lt_of_cell? w1.drew _ hx0)).trans hx0; have g1 := (hr.cell (World.block_lt_of_cell? w1.drew _ hx1)).trans hx1;  unfold Runs; go_simp; rfl); try simp only [Act.put, List.setIfInBounds_toArray, List.set_cons_zero, List.set_cons_succ]))
          refine grow_end (fun w' hr hf => ?_)
          clear hf
          have hbad : entOk l0 j = false := by unfold entOk; rw [hx, decide_eq_false (show ¬ 1 ≤ x.f0 by omega)]; rfl
          have h := H.out
          rw [if_neg (fun e => by have := List.all_eq_true.1 e j (by rw [List.mem_range]; omega); rw [hbad] at this; cases this)] at h
          simp only [Option.some.injEq, Prod.mk.injEq] at h
          obtain ⟨rfl, rfl⟩ := h
          go_wp2
          refine bodyPost_ret (results_tmp2 rfl _ _ _) rfl ?_
          subst hg
          exact ⟨_, rfl, Kd.R_nil _ _ _ _ _, below_step E2.out.bel (below_step (below_drew1 (Below.refl _ _)) hr)⟩
        have c1d : decide (x.f0 < 1) = false := decide_eq_false c1
        by_cases c2 : x.f0 ≥ 64
        · have c2d : decide (64 ≤ x.f0) = true := decide_eq_true c2
          refine wp_region_grow (fun a b => Below a.heap.size a b) (fun | 11 => some (fun v _ => v = undef) | _ => none) (by kernel_rfl) (by kernel_rfl) (fun _ => Below.refl _ _) (fun _ _ _ => below_step) ?_ ?_
          · intro i V hV v w1 w2 hr hv
            split at hV
            · cases hV; exact hv
            · cases hV
          simp only [List.zipIdx_cons, List.zipIdx_nil, Nat.zero_add, Nat.reduceAdd]
          iterate 11 (first | (refine grow_det ?_ rfl (fun w' => ?_) ?_; rotate_left 1; (unfold Runs; go_simp; rfl); try simp only [Act.put, List.setIfInBounds_toArray, List.set_cons_zero, List.set_cons_succ]) | (refine grow_read ?_ rfl (fun w' hr _ => ?_) ?_; rotate_left 1; (have g0 := (hr.cell (World.block_lt_of_cell? w1.drew _ hx0)).trans hx0; have g1 := (hr.cell (World.block_lt_of_cell? w1.drew _ hx1)).trans hx1;  unfold Runs; go_simp; rfl); try simp only [Act.put, List.setIfInBounds_toArray, List.set_cons_zero, List.set_cons_succ]))
          refine grow_pred _ rfl (fun w' hr _ => ?_) (fun v => ?_)
          · unfold Gives
            go_simp
            exact Below.refl _ _
          try simp only [Act.put, List.setIfInBounds_toArray, List.set_cons_zero, List.set_cons_succ]
          iterate 17 (first | (refine grow_det ?_ rfl (fun w' => ?_) ?_; rotate_left 1; (unfold Runs; go_simp; rfl); try simp only [Act.put, List.setIfInBounds_toArray, List.set_cons_zero, List.set_cons_succ]) | (refine grow_read ?_ rfl (fun w' hr _ => ?_) ?_; rotate_left 1; (have g0 := (hr.cell (World.block_lt_of_cell? w1.drew _ hx0)).trans hx0; have g1 := (hr.cell (World.block_lt_of_cell? w1.drew _ hx1)).trans hx1;  unfold Runs; go_simp; rfl); try simp only [Act.put, List.setIfInBounds_toArray, List.set_cons_zero, List.set_cons_succ]))
          refine grow_end (fun w' hr hf => ?_)
          clear hf
          have hbad : entOk l0 j = false := by unfold entOk; rw [hx, decide_eq_false (show ¬ x.f0 < 64 by omega), Bool.and_false]; rfl
          have h := H.out
          rw [if_neg (fun e => by have := List.all_eq_true.1 e j (by rw [List.mem_range]; omega); rw [hbad] at this; cases this)] at h
          simp only [Option.some.injEq, Prod.mk.injEq] at h
          obtain ⟨rfl, rfl⟩ := h
          go_wp2
          refine bodyPost_ret (results_tmp2 rfl _ _ _) rfl ?_
          subst hg
          exact ⟨_, rfl, Kd.R_nil _ _ _ _ _, below_step E2.out.bel (below_step (below_drew1 (Below.refl _ _)) hr)⟩
        have c2d : decide (64 ≤ x.f0) = false := decide_eq_false c2
        cases b with
        | false =>
          refine wp_region_grow (fun a b => Below a.heap.size a b) (fun | 11 => some (fun v _ => v = .bool false) | _ => none) (by kernel_rfl) (by kernel_rfl) (fun _ => Below.refl _ _) (fun _ _ _ => below_step) ?_ ?_
          · intro i V hV v w1 w2 hr hv
            split at hV
            · cases hV; exact hv
            · cases hV
          simp only [List.zipIdx_cons, List.zipIdx_nil, Nat.zero_add, Nat.reduceAdd]
          iterate 11 (first | (refine grow_det ?_ rfl (fun w' => ?_) ?_; rotate_left 1; (unfold Runs; go_simp; rfl); try simp only [Act.put, List.setIfInBounds_toArray, List.set_cons_zero, List.set_cons_succ]) | (refine grow_read ?_ rfl (fun w' hr _ => ?_) ?_; rotate_left 1; (have g0 := (hr.cell (World.block_lt_of_cell? w1.drew _ hx0)).trans hx0; have g1 := (hr.cell (World.block_lt_of_cell? w1.drew _ hx1)).trans hx1;  unfold Runs; go_simp; rfl); try simp only [Act.put, List.setIfInBounds_toArray, List.set_cons_zero, List.set_cons_succ]))
          refine grow_pred _ rfl (fun w' hr _ => ?_) (fun v => ?_)
          · unfold Gives gives
            go_simp
            refine (layout_Name.calls x.f1 false w' HN.out).mono ?_
            rintro e w'' ⟨rfl, bel⟩
            first | exact ⟨_, rfl, bel, rfl⟩ | exact ⟨rfl, bel⟩ | exact bel | (simp; exact bel)
          try simp only [Act.put, List.setIfInBounds_toArray, List.set_cons_zero, List.set_cons_succ]
          refine grow_read (.bool (!false)) rfl (fun w' hr hf => ?_) ?_
          · have h1 := hf 11 (by kernel_rfl)
            rw [upd_self] at h1
            subst h1
            unfold Runs
            go_simp
          try simp only [Act.put, List.setIfInBounds_toArray, List.set_cons_zero, List.set_cons_succ]
          iterate 16 (first | (refine grow_det ?_ rfl (fun w' => ?_) ?_; rotate_left 1; (unfold Runs; go_simp; rfl); try simp only [Act.put, List.setIfInBounds_toArray, List.set_cons_zero, List.set_cons_succ]) | (refine grow_read ?_ rfl (fun w' hr _ => ?_) ?_; rotate_left 1; (have g0 := (hr.cell (World.block_lt_of_cell? w1.drew _ hx0)).trans hx0; have g1 := (hr.cell (World.block_lt_of_cell? w1.drew _ hx1)).trans hx1;  unfold Runs; go_simp; rfl); try simp only [Act.put, List.setIfInBounds_toArray, List.set_cons_zero, List.set_cons_succ]))
          refine grow_end (fun w' hr hf => ?_)
          clear hf
          have hbad : entOk l0 j = false := by unfold entOk; rw [hx, decide_eq_false (show ¬ layout_Name.f x.f1 = some true by rw [HN.out]; simp), Bool.and_false]; rfl
          have h := H.out
          rw [if_neg (fun e => by have := List.all_eq_true.1 e j (by rw [List.mem_range]; omega); rw [hbad] at this; cases this)] at h
          simp only [Option.some.injEq, Prod.mk.injEq] at h
          obtain ⟨rfl, rfl⟩ := h
          go_wp2
          refine bodyPost_ret (results_tmp2 rfl _ _ _) rfl ?_
          subst hg
          exact ⟨_, rfl, Kd.R_nil _ _ _ _ _, below_step E2.out.bel (below_step (below_drew1 (Below.refl _ _)) hr)⟩
        | true =>
          by_cases cj : 0 < (j : Int)
          · have cjd : decide (0 < (j : Int)) = true := decide_eq_true cj
            have cjn : (0 < j) = True := eq_true (by omega)
            have hwj : IntKind.i64.wrap ((j : Int) - 1) = ((j - 1 : Nat) : Int) := by
              unfold IntKind.wrap
              simp [IntKind.bits, IntKind.signed]
              omega
            have hj1n : (j - 1 < n) = True := eq_true (by omega)
            obtain ⟨adp, ep, hp0, hp1⟩ := at_T47 (Kd.C_below HR.out E2.out.bel) ((j : Int) - 1) (by omega) (by omega)
            obtain rfl := Option.some.inj ep
            obtain ⟨y, hy⟩ : ∃ y, rd_T47 l0 ((j : Int) - 1) = y := ⟨_, rfl⟩
            rw [hy] at hp0 hp1
            clear hp0
            have hjn : ((j : Int) - 1).toNat = j - 1 := by omega
            rw [hjn] at hp1
            cases hcmp : Op.bytesLess y.f1.toList x.f1.toList with
            | false =>
              have hle1 : (Op.bytesLess x.f1.toList y.f1.toList || x.f1.toList == y.f1.toList) = true := by rw [leq_not, hcmp]; rfl
              refine wp_region_grow (fun a b => Below a.heap.size a b) (fun | 11 => some (fun v _ => v = .bool true) | _ => none) (by kernel_rfl) (by kernel_rfl) (fun _ => Below.refl _ _) (fun _ _ _ => below_step) ?_ ?_
              · intro i V hV v w1 w2 hr hv
                split at hV
                · cases hV; exact hv
                · cases hV
              simp only [List.zipIdx_cons, List.zipIdx_nil, Nat.zero_add, Nat.reduceAdd]
              iterate 11 (first | (refine grow_det ?_ rfl (fun w' => ?_) ?_; rotate_left 1; (unfold Runs; go_simp; rfl); try simp only [Act.put, List.setIfInBounds_toArray, List.set_cons_zero, List.set_cons_succ]) | (refine grow_read ?_ rfl (fun w' hr _ => ?_) ?_; rotate_left 1; (have g0 := (hr.cell (World.block_lt_of_cell? w1.drew _ hx0)).trans hx0; have g1 := (hr.cell (World.block_lt_of_cell? w1.drew _ hx1)).trans hx1; have g2 := (hr.cell (World.block_lt_of_cell? w1.drew _ hp1)).trans hp1;  unfold Runs; go_simp; rfl); try simp only [Act.put, List.setIfInBounds_toArray, List.set_cons_zero, List.set_cons_succ]))
              refine grow_pred _ rfl (fun w' hr _ => ?_) (fun v => ?_)
              · unfold Gives gives
                go_simp
                refine (layout_Name.calls x.f1 true w' HN.out).mono ?_
                rintro e w'' ⟨rfl, bel⟩
                first | exact ⟨_, rfl, bel, rfl⟩ | exact ⟨rfl, bel⟩ | exact bel | (simp; exact bel)
              try simp only [Act.put, List.setIfInBounds_toArray, List.set_cons_zero, List.set_cons_succ]
              refine grow_read (.bool (!true)) rfl (fun w' hr hf => ?_) ?_
              · have h1 := hf 11 (by kernel_rfl)
                rw [upd_self] at h1
                subst h1
                unfold Runs
                go_simp
              try simp only [Act.put, List.setIfInBounds_toArray, List.set_cons_zero, List.set_cons_succ]
              iterate 16 (first | (refine grow_det ?_ rfl (fun w' => ?_) ?_; rotate_left 1; (unfold Runs; go_simp; rfl); try simp only [Act.put, List.setIfInBounds_toArray, List.set_cons_zero, List.set_cons_succ]) | (refine grow_read ?_ rfl (fun w' hr _ => ?_) ?_; rotate_left 1; (have g0 := (hr.cell (World.block_lt_of_cell? w1.drew _ hx0)).trans hx0; have g1 := (hr.cell (World.block_lt_of_cell? w1.drew _ hx1)).trans hx1; have g2 := (hr.cell (World.block_lt_of_cell? w1.drew _ hp1)).trans hp1;  unfold Runs; go_simp; rfl); try simp only [Act.put, List.setIfInBounds_toArray, List.set_cons_zero, List.set_cons_succ]))
              refine grow_end (fun w' hr hf => ?_)
              clear hf
              have hbad : entOk l0 j = false := by unfold entOk; rw [hx, hy, hcmp, decide_eq_false (show ¬ j = 0 by omega), Bool.or_self, Bool.and_false]
              have h := H.out
              rw [if_neg (fun e => by have := List.all_eq_true.1 e j (by rw [List.mem_range]; omega); rw [hbad] at this; cases this)] at h
              simp only [Option.some.injEq, Prod.mk.injEq] at h
              obtain ⟨rfl, rfl⟩ := h
              go_wp2
              refine bodyPost_ret (results_tmp2 rfl _ _ _) rfl ?_
              subst hg
              exact ⟨_, rfl, Kd.R_nil _ _ _ _ _, below_step E2.out.bel (below_step (below_drew1 (Below.refl _ _)) hr)⟩
            | true =>
              have hle1 : (Op.bytesLess x.f1.toList y.f1.toList || x.f1.toList == y.f1.toList) = false := by rw [leq_not, hcmp]; rfl
              refine wp_region_grow (fun a b => Below a.heap.size a b) (fun | 11 => some (fun v _ => v = .bool true) | _ => none) (by kernel_rfl) (by kernel_rfl) (fun _ => Below.refl _ _) (fun _ _ _ => below_step) ?_ ?_
              · intro i V hV v w1 w2 hr hv
                split at hV
                · cases hV; exact hv
                · cases hV
              simp only [List.zipIdx_cons, List.zipIdx_nil, Nat.zero_add, Nat.reduceAdd]
              iterate 11 (first | (refine grow_det ?_ rfl (fun w' => ?_) ?_; rotate_left 1; (unfold Runs; go_simp; rfl); try simp only [Act.put, List.setIfInBounds_toArray, List.set_cons_zero, List.set_cons_succ]) | (refine grow_read ?_ rfl (fun w' hr _ => ?_) ?_; rotate_left 1; (have g0 := (hr.cell (World.block_lt_of_cell? w1.drew _ hx0)).trans hx0; have g1 := (hr.cell (World.block_lt_of_cell? w1.drew _ hx1)).trans hx1; have g2 := (hr.cell (World.block_lt_of_cell? w1.drew _ hp1)).trans hp1;  unfold Runs; go_simp; rfl); try simp only [Act.put, List.setIfInBounds_toArray, List.set_cons_zero, List.set_cons_succ]))
              refine grow_pred _ rfl (fun w' hr _ => ?_) (fun v => ?_)
              · unfold Gives gives
                go_simp
                refine (layout_Name.calls x.f1 true w' HN.out).mono ?_
                rintro e w'' ⟨rfl, bel⟩
                first | exact ⟨_, rfl, bel, rfl⟩ | exact ⟨rfl, bel⟩ | exact bel | (simp; exact bel)
              try simp only [Act.put, List.setIfInBounds_toArray, List.set_cons_zero, List.set_cons_succ]
              refine grow_read (.bool (!true)) rfl (fun w' hr hf => ?_) ?_
              · have h1 := hf 11 (by kernel_rfl)
                rw [upd_self] at h1
                subst h1
                unfold Runs
                go_simp
              try simp only [Act.put, List.setIfInBounds_toArray, List.set_cons_zero, List.set_cons_succ]
              iterate 16 (first | (refine grow_det ?_ rfl (fun w' => ?_) ?_; rotate_left 1; (unfold Runs; go_simp; rfl); try simp only [Act.put, List.setIfInBounds_toArray, List.set_cons_zero, List.set_cons_succ]) | (refine grow_read ?_ rfl (fun w' hr _ => ?_) ?_; rotate_left 1; (have g0 := (hr.cell (World.block_lt_of_cell? w1.drew _ hx0)).trans hx0; have g1 := (hr.cell (World.block_lt_of_cell? w1.drew _ hx1)).trans hx1; have g2 := (hr.cell (World.block_lt_of_cell? w1.drew _ hp1)).trans hp1;  unfold Runs; go_simp; rfl); try simp only [Act.put, List.setIfInBounds_toArray, List.set_cons_zero, List.set_cons_succ]))
              refine grow_end (fun w' hr hf => ?_)
              clear hf
              have hok : entOk l0 j = true := by unfold entOk; rw [hx, hy, hcmp, decide_eq_true (show 1 ≤ x.f0 by omega), decide_eq_true (show x.f0 < 64 by omega), decide_eq_true HN.out, Bool.or_true]; rfl
              go_wp2
              have hb2 : w'.heap[gb]? = some (.cells #[.int .i64 x.f0, .string x.f1] 47 (0, 0)) := (hr.block gb (Array.getElem?_eq_some_iff.1 (show w1.drew.heap[gb]? = _ from hb0)).1).trans hb0
              have E3 := Aside0.mk (E2.out.later (below_step (below_drew1 (Below.refl _ _)) hr))
              have E2' := E2
              clear hr E2 hx0 hx1 hgb hw1 hb0
              generalize w' = w2 at hb2 E3 ⊢
              have hz0 : (0 < 32 * n - 32 * j) = True := eq_true (by omega)
              have hz1 : (1 < 32 * n - 32 * j) = True := eq_true (by omega)
              have hz1i : ((1 : Int) < ((32 * n - 32 * j : Nat) : Int)) = True := eq_true (by omega)
              have hf0 := (ok_name hok).2
              rw [hx] at hf0
              have hu0 : x.f0 % 256 = x.f0 := by omega
              have hE3 := E3.out
              have hlen := hE3.len
              refine wp_region_grow (SRel l0 g j (x.f0 % 256) ((x.f1.size : Int) % 256)) (fun | 10 => some (fun v w' => v = undef ∧ ∃ k, 1 ≤ k ∧ k ≤ 2 ∧ StL w' g (stage l0 j (x.f0 % 256) ((x.f1.size : Int) % 256) k)) | 12 => some (fun v w' => v = undef ∧ StL w' g (stage l0 j (x.f0 % 256) ((x.f1.size : Int) % 256) 2)) | _ => none) (by kernel_rfl) (by kernel_rfl) SRel.refl (fun _ _ _ => SRel.trans) ?_ ?_
              · intro i V hV v w1 w2 hr hv
                split at hV
                · cases hV
                  obtain ⟨h1, k, h2, h3, h4⟩ := hv
                  obtain ⟨k', h5, h6, h7⟩ := hr.2 k h3 h4
                  exact ⟨h1, k', by omega, h6, h7⟩
                · cases hV
                  obtain ⟨h1, h4⟩ := hv
                  obtain ⟨k', h5, h6, h7⟩ := hr.2 2 (Nat.le_refl _) h4
                  obtain rfl : k' = 2 := by omega
                  exact ⟨h1, h7⟩
                · cases hV
              simp only [List.zipIdx_cons, List.zipIdx_nil, Nat.zero_add, Nat.reduceAdd]
              iterate 10 (first | (refine grow_det ?_ rfl (fun w' => ?_) ?_; rotate_left 1; (unfold Runs; go_simp; rfl); try simp only [Act.put, List.setIfInBounds_toArray, List.set_cons_zero, List.set_cons_succ]) | (refine grow_read ?_ rfl (fun w' hr _ => ?_) ?_; rotate_left 1; (have q0 := box0 hr.1 hb2 hgne; have q1 := box1 hr.1 hb2 hgne;  unfold Runs; go_simp; rfl); try simp only [Act.put, List.setIfInBounds_toArray, List.set_cons_zero, List.set_cons_succ]))
              refine grow_pred _ rfl (fun w' hr _ => ?_) (fun v => ?_)
              · obtain ⟨k, -, hk2, hs⟩ := hr.2 0 (Nat.zero_le _) (hE3.st _ _)
                obtain ⟨h1, k', h2, h3, h4⟩ := step_a hk2 hs
                have hc := hs.cell (32 * j) (by rw [stage_len]; omega)
                have hfr := hs.frozen (32 * j)
                have hw0 : IntKind.u8.wrap x.f0 = x.f0 % 256 := by unfold IntKind.wrap; simp [IntKind.bits, IntKind.signed]
                rw [← hw0] at h1 h4 ⊢
                clear hu0 hw0
                unfold Gives gives
                go_simp
                first | exact ⟨h1, k', h2, h3, h4⟩ | exact ⟨k', h2, h3, h4⟩
              try simp only [Act.put, List.setIfInBounds_toArray, List.set_cons_zero, List.set_cons_succ]
              iterate 1 (first | (refine grow_det ?_ rfl (fun w' => ?_) ?_; rotate_left 1; (unfold Runs; go_simp; rfl); try simp only [Act.put, List.setIfInBounds_toArray, List.set_cons_zero, List.set_cons_succ]) | (refine grow_read ?_ rfl (fun w' hr _ => ?_) ?_; rotate_left 1; (have q0 := box0 hr.1 hb2 hgne; have q1 := box1 hr.1 hb2 hgne;  unfold Runs; go_simp; rfl); try simp only [Act.put, List.setIfInBounds_toArray, List.set_cons_zero, List.set_cons_succ]))
              refine grow_pred _ rfl (fun w' hr hf => ?_) (fun v => ?_)
              · have hf10 := hf 10 (by kernel_rfl)
                rw [upd_self] at hf10
                obtain ⟨-, k, hk1, hk2, hs⟩ := hf10
                obtain ⟨h1, h4⟩ := step_b hk1 hk2 hs
                have hc := hs.cell (32 * j + 1) (by rw [stage_len]; omega)
                have hfr := hs.frozen (32 * j + 1)
                have hw0 : IntKind.u8.wrap (x.f1.size : Int) = (x.f1.size : Int) % 256 := by unfold IntKind.wrap; simp [IntKind.bits, IntKind.signed]
                rw [← hw0] at h1 h4 ⊢
                clear hu0 hw0 hf
                unfold Gives gives
                go_simp
              try simp only [Act.put, List.setIfInBounds_toArray, List.set_cons_zero, List.set_cons_succ]
              refine grow_end (fun w3 hr hf => ?_)
              have hf12 := hf 12
              rw [upd_self] at hf12
              obtain ⟨-, hst⟩ := hf12
              clear hf
              have hgr : w2.grownBy w3 (some g) := SRel.drew (l := l0) (j := j) (a := 0) (b := 0) w2 |>.1.trans hr.1
              have hb3 := (hgr.block gb (Array.getElem?_eq_some_iff.1 hb2).1 (by simpa using hgne)).trans hb2
              have B3 := hE3.bel.grown hgr hE3.bel.size (by intro k hk; cases hk; exact hE3.ge)
              clear hr hgr hb2 hE3 hu0 E3
              have HST := Aside0.mk hst
              clear hst
              go_wp2
              have hx3 : w3.cell? ⟨gb, 1, none⟩ = some (.string x.f1) := by simp [World.cell?, hb3]
              have hz2 : (2 ≤ 32 * n - 32 * j) = True := eq_true (by omega)
              have hz2i : ((2 : Int) ≤ ((32 * n - 32 * j : Nat) : Int)) = True := eq_true (by omega)
              have hz2n : ¬ 32 * n - 32 * j = 2 := by omega
              refine wp_region_growT 4 (fun a b => Below a.heap.size a b) (fun _ => none) (by kernel_rfl) (by kernel_rfl) (by kernel_rfl) (by kernel_rfl) (by kernel_rfl) (fun _ => Below.refl _ _) (fun _ _ _ => below_step) (fun i V hV => by cases hV) ?_
              simp only [List.zipIdx_cons, List.zipIdx_nil, Nat.zero_add, Nat.reduceAdd, List.take_succ_cons, List.take_zero, List.drop_succ_cons, List.drop_zero]
              iterate 4 (first | (refine grow_det ?_ rfl (fun w' => ?_) ?_; rotate_left 1; (unfold Runs; go_simp; rfl); try simp only [Act.put, List.setIfInBounds_toArray, List.set_cons_zero, List.set_cons_succ]) | (refine grow_read ?_ rfl (fun w' hr _ => ?_) ?_; rotate_left 1; (have g1 := (hr.cell (World.block_lt_of_cell? w3.drew _ hx3)).trans hx3;  unfold Runs; go_simp; rfl); try simp only [Act.put, List.setIfInBounds_toArray, List.set_cons_zero, List.set_cons_succ]))
              refine grow_end (fun w4 hr hf => ?_)
              clear hf
              have hst4 : w4.heap[g]? = some (.cells (nums .u8 (stage l0 j (x.f0 % 256) ((x.f1.size : Int) % 256) 2)).toArray 5 (0, 0)) := (hr.block g (Array.getElem?_eq_some_iff.1 (show w3.drew.heap[g]? = _ from HST.out)).1).trans HST.out
              have B4 := below_step B3 (below_step (below_drew1 (Below.refl _ _)) hr)
              have hs28 := (ok_name hok).1
              rw [hx] at hs28
              have hE5 := E2'.out.next hlt hln hok hx B4 hst4
              have E5 := Aside0.mk hE5
              have B5 := Aside0.mk B4
              clear hE5 B4 hr B3 hx3 hb3 HST
              refine wpList_copy_str rfl (.tmp 67) (.tmp 69) 40 9 rfl 5 Tryd.underlying40 hszU8 g (32 * j + 2) (32 * n - 32 * j - 2) (32 * n - 32 * j - 2) x.f1 rfl rfl _ 5 hst4 (by omega) (by rw [List.size_toArray, nums_length, stage_len]; omega) ?_
              clear hst4
              generalize w4.setRow g _ = w5 at E5 ⊢
              go_wp2
              go_roundw
              case rel => exact ⟨j + 1, by go_num, E5.out⟩
              case measure => simp [Lib.intOf]; omega
          · have cjd : decide (0 < (j : Int)) = false := decide_eq_false cj
            have cjn : (0 < j) = False := eq_false (by omega)
            refine wp_region_grow (fun a b => Below a.heap.size a b) (fun | 11 => some (fun v _ => v = .bool true) | _ => none) (by kernel_rfl) (by kernel_rfl) (fun _ => Below.refl _ _) (fun _ _ _ => below_step) ?_ ?_
            · intro i V hV v w1 w2 hr hv
              split at hV
              · cases hV; exact hv
              · cases hV
            simp only [List.zipIdx_cons, List.zipIdx_nil, Nat.zero_add, Nat.reduceAdd]
            iterate 11 (first | (refine grow_det ?_ rfl (fun w' => ?_) ?_; rotate_left 1; (unfold Runs; go_simp; rfl); try simp only [Act.put, List.setIfInBounds_toArray, List.set_cons_zero, List.set_cons_succ]) | (refine grow_read ?_ rfl (fun w' hr _ => ?_) ?_; rotate_left 1; (have g0 := (hr.cell (World.block_lt_of_cell? w1.drew _ hx0)).trans hx0; have g1 := (hr.cell (World.block_lt_of_cell? w1.drew _ hx1)).trans hx1;  unfold Runs; go_simp; rfl); try simp only [Act.put, List.setIfInBounds_toArray, List.set_cons_zero, List.set_cons_succ]))
            refine grow_pred _ rfl (fun w' hr _ => ?_) (fun v => ?_)
            · unfold Gives gives
              go_simp
              refine (layout_Name.calls x.f1 true w' HN.out).mono ?_
              rintro e w'' ⟨rfl, bel⟩
              first | exact ⟨_, rfl, bel, rfl⟩ | exact ⟨rfl, bel⟩ | exact bel | (simp; exact bel)
            try simp only [Act.put, List.setIfInBounds_toArray, List.set_cons_zero, List.set_cons_succ]
            refine grow_read (.bool (!true)) rfl (fun w' hr hf => ?_) ?_
            · have h1 := hf 11 (by kernel_rfl)
              rw [upd_self] at h1
              subst h1
              unfold Runs
              go_simp
            try simp only [Act.put, List.setIfInBounds_toArray, List.set_cons_zero, List.set_cons_succ]
            iterate 16 (first | (refine grow_det ?_ rfl (fun w' => ?_) ?_; rotate_left 1; (unfold Runs; go_simp; rfl); try simp only [Act.put, List.setIfInBounds_toArray, List.set_cons_zero, List.set_cons_succ]) | (refine grow_read ?_ rfl (fun w' hr _ => ?_) ?_; rotate_left 1; (have g0 := (hr.cell (World.block_lt_of_cell? w1.drew _ hx0)).trans hx0; have g1 := (hr.cell (World.block_lt_of_cell? w1.drew _ hx1)).trans hx1;  unfold Runs; go_simp; rfl); try simp only [Act.put, List.setIfInBounds_toArray, List.set_cons_zero, List.set_cons_succ]))
            refine grow_end (fun w' hr hf => ?_)
            clear hf
            have hok : entOk l0 j = true := by unfold entOk; rw [hx, decide_eq_true (show 1 ≤ x.f0 by omega), decide_eq_true (show x.f0 < 64 by omega), decide_eq_true HN.out, decide_eq_true (show j = 0 by omega)]; rfl
            go_wp2
            have hb2 : w'.heap[gb]? = some (.cells #[.int .i64 x.f0, .string x.f1] 47 (0, 0)) := (hr.block gb (Array.getElem?_eq_some_iff.1 (show w1.drew.heap[gb]? = _ from hb0)).1).trans hb0
            have E3 := Aside0.mk (E2.out.later (below_step (below_drew1 (Below.refl _ _)) hr))
            have E2' := E2
            clear hr E2 hx0 hx1 hgb hw1 hb0
            generalize w' = w2 at hb2 E3 ⊢
            have hz0 : (0 < 32 * n - 32 * j) = True := eq_true (by omega)
            have hz1 : (1 < 32 * n - 32 * j) = True := eq_true (by omega)
            have hz1i : ((1 : Int) < ((32 * n - 32 * j : Nat) : Int)) = True := eq_true (by omega)
            have hf0 := (ok_name hok).2
            rw [hx] at hf0
            have hu0 : x.f0 % 256 = x.f0 := by omega
            have hE3 := E3.out
            have hlen := hE3.len
            refine wp_region_grow (SRel l0 g j (x.f0 % 256) ((x.f1.size : Int) % 256)) (fun | 10 => some (fun v w' => v = undef ∧ ∃ k, 1 ≤ k ∧ k ≤ 2 ∧ StL w' g (stage l0 j (x.f0 % 256) ((x.f1.size : Int) % 256) k)) | 12 => some (fun v w' => v = undef ∧ StL w' g (stage l0 j (x.f0 % 256) ((x.f1.size : Int) % 256) 2)) | _ => none) (by kernel_rfl) (by kernel_rfl) SRel.refl (fun _ _ _ => SRel.trans) ?_ ?_
            · intro i V hV v w1 w2 hr hv
              split at hV
              · cases hV
                obtain ⟨h1, k, h2, h3, h4⟩ := hv
                obtain ⟨k', h5, h6, h7⟩ := hr.2 k h3 h4
                exact ⟨h1, k', by omega, h6, h7⟩
              · cases hV
                obtain ⟨h1, h4⟩ := hv
                obtain ⟨k', h5, h6, h7⟩ := hr.2 2 (Nat.le_refl _) h4
                obtain rfl : k' = 2 := by omega
                exact ⟨h1, h7⟩
              · cases hV
            simp only [List.zipIdx_cons, List.zipIdx_nil, Nat.zero_add, Nat.reduceAdd]
            iterate 10 (first | (refine grow_det ?_ rfl (fun w' => ?_) ?_; rotate_left 1; (unfold Runs; go_simp; rfl); try simp only [Act.put, List.setIfInBounds_toArray, List.set_cons_zero, List.set_cons_succ]) | (refine grow_read ?_ rfl (fun w' hr _ => ?_) ?_; rotate_left 1; (have q0 := box0 hr.1 hb2 hgne; have q1 := box1 hr.1 hb2 hgne;  unfold Runs; go_simp; rfl); try simp only [Act.put, List.setIfInBounds_toArray, List.set_cons_zero, List.set_cons_succ]))
            refine grow_pred _ rfl (fun w' hr _ => ?_) (fun v => ?_)
            · obtain ⟨k, -, hk2, hs⟩ := hr.2 0 (Nat.zero_le _) (hE3.st _ _)
              obtain ⟨h1, k', h2, h3, h4⟩ := step_a hk2 hs
              have hc := hs.cell (32 * j) (by rw [stage_len]; omega)
              have hfr := hs.frozen (32 * j)
              have hw0 : IntKind.u8.wrap x.f0 = x.f0 % 256 := by unfold IntKind.wrap; simp [IntKind.bits, IntKind.signed]
              rw [← hw0] at h1 h4 ⊢
              clear hu0 hw0
              unfold Gives gives
              go_simp
              first | exact ⟨h1, k', h2, h3, h4⟩ | exact ⟨k', h2, h3, h4⟩
            try simp only [Act.put, List.setIfInBounds_toArray, List.set_cons_zero, List.set_cons_succ]
            iterate 1 (first | (refine grow_det ?_ rfl (fun w' => ?_) ?_; rotate_left 1; (unfold Runs; go_simp; rfl); try simp only [Act.put, List.setIfInBounds_toArray, List.set_cons_zero, List.set_cons_succ]) | (refine grow_read ?_ rfl (fun w' hr _ => ?_) ?_; rotate_left 1; (have q0 := box0 hr.1 hb2 hgne; have q1 := box1 hr.1 hb2 hgne;  unfold Runs; go_simp; rfl); try simp only [Act.put, List.setIfInBounds_toArray, List.set_cons_zero, List.set_cons_succ]))
            refine grow_pred _ rfl (fun w' hr hf => ?_) (fun v => ?_)
            · have hf10 := hf 10 (by kernel_rfl)
              rw [upd_self] at hf10
              obtain ⟨-, k, hk1, hk2, hs⟩ := hf10
              obtain ⟨h1, h4⟩ := step_b hk1 hk2 hs
              have hc := hs.cell (32 * j + 1) (by rw [stage_len]; omega)
              have hfr := hs.frozen (32 * j + 1)
              have hw0 : IntKind.u8.wrap (x.f1.size : Int) = (x.f1.size : Int) % 256 := by unfold IntKind.wrap; simp [IntKind.bits, IntKind.signed]
              rw [← hw0] at h1 h4 ⊢
              clear hu0 hw0 hf
              unfold Gives gives
              go_simp
            try simp only [Act.put, List.setIfInBounds_toArray, List.set_cons_zero, List.set_cons_succ]
            refine grow_end (fun w3 hr hf => ?_)
            have hf12 := hf 12
            rw [upd_self] at hf12
            obtain ⟨-, hst⟩ := hf12
            clear hf
            have hgr : w2.grownBy w3 (some g) := SRel.drew (l := l0) (j := j) (a := 0) (b := 0) w2 |>.1.trans hr.1
            have hb3 := (hgr.block gb (Array.getElem?_eq_some_iff.1 hb2).1 (by simpa using hgne)).trans hb2
            have B3 := hE3.bel.grown hgr hE3.bel.size (by intro k hk; cases hk; exact hE3.ge)
            clear hr hgr hb2 hE3 hu0 E3
            have HST := Aside0.mk hst
            clear hst
            go_wp2
            have hx3 : w3.cell? ⟨gb, 1, none⟩ = some (.string x.f1) := by simp [World.cell?, hb3]
            have hz2 : (2 ≤ 32 * n - 32 * j) = True := eq_true (by omega)
            have hz2i : ((2 : Int) ≤ ((32 * n - 32 * j : Nat) : Int)) = True := eq_true (by omega)
            have hz2n : ¬ 32 * n - 32 * j = 2 := by omega
            refine wp_region_growT 4 (fun a b => Below a.heap.size a b) (fun _ => none) (by kernel_rfl) (by kernel_rfl) (by kernel_rfl) (by kernel_rfl) (by kernel_rfl) (fun _ => Below.refl _ _) (fun _ _ _ => below_step) (fun i V hV => by cases hV) ?_
            simp only [List.zipIdx_cons, List.zipIdx_nil, Nat.zero_add, Nat.reduceAdd, List.take_succ_cons, List.take_zero, List.drop_succ_cons, List.drop_zero]
            iterate 4 (first | (refine grow_det ?_ rfl (fun w' => ?_) ?_; rotate_left 1; (unfold Runs; go_simp; rfl); try simp only [Act.put, List.setIfInBounds_toArray, List.set_cons_zero, List.set_cons_succ]) | (refine grow_read ?_ rfl (fun w' hr _ => ?_) ?_; rotate_left 1; (have g1 := (hr.cell (World.block_lt_of_cell? w3.drew _ hx3)).trans hx3;  unfold Runs; go_simp; rfl); try simp only [Act.put, List.setIfInBounds_toArray, List.set_cons_zero, List.set_cons_succ]))
            refine grow_end (fun w4 hr hf => ?_)
            clear hf
            have hst4 : w4.heap[g]? = some (.cells (nums .u8 (stage l0 j (x.f0 % 256) ((x.f1.size : Int) % 256) 2)).toArray 5 (0, 0)) := (hr.block g (Array.getElem?_eq_some_iff.1 (show w3.drew.heap[g]? = _ from HST.out)).1).trans HST.out
            have B4 := below_step B3 (below_step (below_drew1 (Below.refl _ _)) hr)
            have hs28 := (ok_name hok).1
            rw [hx] at hs28
            have hE5 := E2'.out.next hlt hln hok hx B4 hst4
            have E5 := Aside0.mk hE5
            have B5 := Aside0.mk B4
            clear hE5 B4 hr B3 hx3 hb3 HST
            refine wpList_copy_str rfl (.tmp 67) (.tmp 69) 40 9 rfl 5 Tryd.underlying40 hszU8 g (32 * j + 2) (32 * n - 32 * j - 2) (32 * n - 32 * j - 2) x.f1 rfl rfl _ 5 hst4 (by omega) (by rw [List.size_toArray, nums_length, stage_len]; omega) ?_
            clear hst4
            generalize w4.setRow g _ = w5 at E5 ⊢
            go_wp2
            go_roundw
            case rel => exact ⟨j + 1, by go_num, E5.out⟩
            case measure => simp [Lib.intOf]; omega
      · obtain rfl : j = n := by omega
        have E1 := Aside0.mk hE
        have hall : (List.range l0.length).all (entOk l0) = true := List.all_eq_true.2 fun k hm => hk k (by rw [List.mem_range] at hm; omega)
        have h := H.out
        rw [if_pos hall] at h
        simp only [Option.some.injEq, Prod.mk.injEq] at h
        obtain ⟨rfl, rfl⟩ := h
        clear hE hk E0 hall H
        go_wp2
        refine bodyPost_ret (results_tmp2 rfl _ _ _) rfl ?_
        exact ⟨_, rfl, E1.out.done hln (by omega), E1.out.bel⟩

/-! ### majordomoref03_pad: function 43 -/
def majordomoref03_pad.l0 : Nat → List Int → Int → Option (List Int)
  | 0, _, _ => none
  | k + 1, x0, x1 => if (x0.length : Int) < x1 then (if x0.length < 140737488355328 then (majordomoref03_pad.l0 k (x0 ++ [0]) x1) else (none)) else (some x0)
def majordomoref03_pad.f (k : Nat) (l0 : List Int) (a1 : Int) : Option (List Int) := majordomoref03_pad.l0 k l0 a1
theorem majordomoref03_pad.mono_l : ∀ k, (∀ y0 y1, LeO (majordomoref03_pad.l0 k y0 y1) (majordomoref03_pad.l0 (k + 1) y0 y1))
  | 0 => fun _ _ r h => by simp [majordomoref03_pad.l0] at h
  | k + 1 => by
    have ih0 := majordomoref03_pad.mono_l k
    · intro y0 y1
      unfold majordomoref03_pad.l0
      repeat' first
      | (with_reducible exact ih0 _ _)
      | (with_reducible exact LeO.refl _)
      | (with_reducible exact LeO.none _)
      | (with_reducible refine LeO.ite ?_ ?_)
      | (with_reducible refine LeO.bind ?_ (fun _ => ?_))
      | exact ih0 _ _
      | exact LeO.none _
      | refine LeO.ite ?_ ?_
      | refine LeO.bind ?_ (fun _ => ?_)
theorem majordomoref03_pad.mono : ∀ a0 a1 k, LeO (majordomoref03_pad.f k a0 a1) (majordomoref03_pad.f (k + 1) a0 a1) := by
  intro a0 a1 k
  have ih0 := majordomoref03_pad.mono_l k
  unfold majordomoref03_pad.f
  repeat' first
      | (with_reducible exact ih0 _ _)
      | (with_reducible exact LeO.refl _)
      | (with_reducible exact LeO.none _)
      | (with_reducible refine LeO.ite ?_ ?_)
      | (with_reducible refine LeO.bind ?_ (fun _ => ?_))
      | exact ih0 _ _
      | exact LeO.none _
      | refine LeO.ite ?_ ?_
      | refine LeO.bind ?_ (fun _ => ?_)
set_option maxHeartbeats 8000000 in
set_option maxRecDepth 100000 in
theorem majordomoref03_pad.calls (k : Nat) (P0_ : Nat → Prop) (u9000_ : Value) (l0 : List Int) (a1 : Int) (r : List Int) (w0 w : World) (hB : Below w0.heap.size w0 w) (ho0 : Kd.R (Kd.int .u8) 5 w w0.heap.size P0_ u9000_ l0) (h : majordomoref03_pad.f k l0 a1 = some r) :
    Calls Tryd.prog 43 #[u9000_, .int .i64 a1] w fun e w' => ∃ v0_ : Value, e = .returned (v0_) ∧ Kd.R (Kd.int .u8) 5 w' w0.heap.size (fun k_ => (P0_ k_ ∨ w.heap.size ≤ k_)) v0_ r ∧ Below w0.heap.size w0 w' ∧ Kept w w' (fun k_ => P0_ k_) := by
  have HO0 := Aside0.mk (show Kd.R (Kd.int .u8) 5 w w0.heap.size (fun k_ => (P0_ k_ ∨ w.heap.size ≤ k_)) u9000_ l0 from Kd.R_mono ho0 (fun k_ hk => (.inl hk)))
  have HK := Aside0.mk (Kept.refl w (fun k_ => P0_ k_))
  have HW0 := Aside0.mk hB.size
  have HB := Aside0.mk hB
  clear hB
  have H : (majordomoref03_pad.l0 k l0 a1) = some r := h
  clear h
  have H' := Aside0.mk H
  clear H
  go_enter Tryd.func43, Tryd.ntmps43
  go_wp2
  go_loopg [0] k (fun kq v0 w' => ∃ (x0_1 : List Int), Aside0 (majordomoref03_pad.l0 kq x0_1 a1 = some r) ∧ Aside0 (kq ≤ k) ∧ Aside0 (Kd.R (Kd.int .u8) 5 w' w0.heap.size (fun k_ => (P0_ k_ ∨ w.heap.size ≤ k_)) v0 x0_1) ∧ Aside0 (Kept w w' (fun k_ => P0_ k_)) ∧ Aside0 (Below w0.heap.size w0 w'))
  case atStart => exact ⟨(l0), H', ⟨Nat.le_refl _⟩, ⟨by (with_reducible repeat (first | apply Kd.R_alloc | apply Kd.R_drewN | apply Kd.R_drew)); exact HO0.out⟩, ⟨by repeat (first | (with_reducible first | exact HK.out | apply Kept.alloc | apply Kept.drewN | apply Kept.drew) | exact HK.out)⟩, ⟨by repeat (first | (with_reducible first | exact HB.out | apply below_alloc | apply pw_below_drewN | apply below_drew1) | exact HB.out)⟩⟩
  case round =>
    clear H'
    try clear p2
    obtain ⟨x0_1, HA, HK1, HO_0, HK, HB⟩ := hrel
    cases gk with
    | zero => exact absurd HA.out (by simp [majordomoref03_pad.l0])
    | succ k1 =>
      have H := HA.out
      clear HA
      simp only [majordomoref03_pad.l0] at H
      by_cases c3 : (x0_1.length : Int) < a1
      · rw [if_pos c3] at H
        have c3b0 : decide ((x0_1.length : Int) < a1) = true := decide_eq_true c3
        clear c3
        by_cases c4 : x0_1.length < 140737488355328
        · rw [if_pos c4] at H
          have LMc4 := Aside0.mk c4
          clear c4
          obtain ⟨y181, hy181⟩ : ∃ y_ : List Int, y_ = (x0_1 ++ [0]) := ⟨_, rfl⟩
          replace H : (majordomoref03_pad.l0 k1 y181 a1) = some r := by first | (rw [hy181]; with_reducible exact H) | (have H2_ := (Option.bind_some _ _).symm.trans H; rw [hy181]; with_reducible exact H2_) | (have H2_ := (Option.bind_some _ _).symm.trans H; with_reducible exact H2_) | with_reducible exact H | (rw [hy181]; exact H) | exact H
          have Ny181 := Aside0.mk hy181
          clear hy181
          have H' := Aside0.mk H
          clear H
          obtain ⟨Ao5, co5, eo5⟩ := Kd.R_slice HO_0.out
          subst eo5
          go_wp2_with (first | ((with_reducible refine gate_builtin (b := .append) (xs := #[.tmp 9, .tmp 10]) rfl ?_); at_builtin; refine Kd.R_append (Kd.int .u8) (w0 := w0) w0.heap.size rfl (.tmp 9) (.tmp 10) 40 5 (.int .u8 0) 1 rfl Tryd.underlying40 info5 rfl (by decide) (by omega) (.slice Ao5 x0_1.length co5) x0_1 0 [.int .u8 0] (fun k_ => (P0_ k_ ∨ w.heap.size ≤ k_)) (fun _ => False) rfl rfl ?aP (fun _ hk => hk.elim) ?aF ?aO ?aB ?aS ?aL ?_; (case aP => exact rfl); (case aB => exact (by repeat (first | (with_reducible first | exact HB.out | apply below_alloc | apply pw_below_drewN | apply below_drew1) | exact HB.out))); (case aF => exact (fun k_ hk => (.inr (Nat.le_trans (by first | exact HK.out.1 | exact (show Kept w _ (fun k_ => P0_ k_) from by repeat (first | (with_reducible first | exact HK.out | apply Kept.alloc | apply Kept.drewN | apply Kept.drew) | exact HK.out)).1) hk)))); (case aO => exact (by (with_reducible repeat (first | apply Kd.R_alloc | apply Kd.R_drewN | apply Kd.R_drew)); exact HO_0.out)); (case aS => exact (below_size (by repeat (first | (with_reducible first | exact HB.out | apply below_alloc | apply pw_below_drewN | apply below_drew1) | exact HB.out)))); (case aL => have := LMc4.out; omega); intro v182 w6 ho hb hg hat; rw [← Ny181.out] at ho; have n0_ := Aside0.mk (hb); have n1_ := Aside0.mk (Kept.of_grown (S := (fun k_ => P0_ k_)) hg (by repeat (first | (with_reducible first | exact HK.out | apply Kept.alloc | apply Kept.drewN | apply Kept.drew) | exact HK.out)) (fun k_ e_ => (HO_0.out.1 k_ e_))); have n2_ := Aside0.mk (ho); clear HB; clear HK; clear HO_0; have HB := n0_; have HK := n1_; have HO183 := n2_; clear n0_ n1_ n2_; clear ho hb hg hat))
          go_roundg k1
          case measure => have := HK1.out; omega
          case rel => exact ⟨(y181), H', ⟨by have := HK1.out; omega⟩, ⟨by (with_reducible repeat (first | apply Kd.R_alloc | apply Kd.R_drewN | apply Kd.R_drew)); exact HO183.out⟩, ⟨by repeat (first | (with_reducible first | exact HK.out | apply Kept.alloc | apply Kept.drewN | apply Kept.drew) | exact HK.out)⟩, ⟨by repeat (first | (with_reducible first | exact HB.out | apply below_alloc | apply pw_below_drewN | apply below_drew1) | exact HB.out)⟩⟩
        · rw [if_neg c4] at H
          exact absurd H (by simp)
      · rw [if_neg c3] at H
        have c3b0 : decide ((x0_1.length : Int) < a1) = false := decide_eq_false c3
        clear c3
        obtain rfl := Option.some.inj H
        obtain ⟨Ao7, co7, eo7⟩ := Kd.R_slice HO_0.out
        subst eo7
        go_wp2
        go_ret
        exact ⟨_, by first | rfl | (simp [errW_none, errW_some] <;> rfl) | (simp [*, errW_none, errW_some] <;> rfl), by (with_reducible repeat (first | apply Kd.R_alloc | apply Kd.R_drewN | apply Kd.R_drew)); exact HO_0.out, by repeat (first | (with_reducible first | exact HB.out | apply below_alloc | apply pw_below_drewN | apply below_drew1) | exact HB.out), by repeat (first | (with_reducible first | exact HK.out | apply Kept.alloc | apply Kept.drewN | apply Kept.drew) | exact HK.out)⟩

end Go.Proofs.YtgppfalpncbmbaaDoor.PE
