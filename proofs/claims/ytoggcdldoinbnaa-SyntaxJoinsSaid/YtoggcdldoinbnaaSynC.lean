/- Contracts of the parser's small functions. -/
import Derived.Test.YtoggcdldoinbnaaSynM
import Derived.WalkLawsBesides
namespace Go.Proofs.Ytoggcdldoinbnaa
open Go.RowKit
open syn (Tok Nd PS)
set_option linter.unusedVariables false

def wrongE : Ending := .panicked [{ v := .iface 45 (.agg #[]), recovered := false }]
section
variable (F : Nat → Prop) (lo : Nat) (w0 : World) (a : Option Addr) (l : List Tok) (c pb : Nat)
/-- A call ends as the plain parser does. -/
def Post {α : Type} (enc : α → Value → World → Value → Prop) (r : syn.Res α) (nv dv : Value) (w : World) : Ending → World → Prop := fun e w' => ∃ nv' dv', Wr pb nv dv w w' nv' dv' ∧ match r with
  | .ok x s' => ∃ v, e = .returned v ∧ enc x v w' dv' ∧ St F lo w0 a l c pb w' nv' dv' s'
  | .bad q => e = wrongE ∧ ∃ s', s'.at_ = q ∧ St F lo w0 a l c pb w' nv' dv' s'
end
theorem fld0_ (k : Int) (t : ByteArray) (q : Int) (w : World) : (Instr.field 37 (.agg #[.int .i64 k, .string t, .int .i64 q]) 0).run Try.prog w = .ok (.int .i64 k) w := by kernel_rfl
theorem fld1_ (k : Int) (t : ByteArray) (q : Int) (w : World) : (Instr.field 37 (.agg #[.int .i64 k, .string t, .int .i64 q]) 1).run Try.prog w = .ok (.string t) w := by kernel_rfl
theorem kept_ {w w' : World} {ad : Addr} {v : Value} (k : Only (fun _ => False) w w') (h : w.cell? ad = some v) : w'.cell? ad = some v := (k.cell (block_lt_of_cell h) (fun e => e)).trans h
theorem trip_ {w : World} {b : Nat} {x y z : Value} {t : TypeId} (h : w.heap[b]? = some (.cells #[x, y, z] t (0, 0))) : (w.cell? ⟨b, 0, none⟩ = some x ∧ w.cell? ⟨b, 1, none⟩ = some y ∧ w.cell? ⟨b, 2, none⟩ = some z) ∧ w.frozen? ⟨b, 0, none⟩ = false ∧ w.frozen? ⟨b, 1, none⟩ = false ∧ w.frozen? ⟨b, 2, none⟩ = false := ⟨⟨(cellOf h 0).trans rfl, (cellOf h 1).trans rfl, (cellOf h 2).trans rfl⟩, freeOf h 0, freeOf h 1, freeOf h 2⟩
theorem set3_ {w : World} {b : Nat} {x y z x' y' z' : Value} {t : TypeId} (h : w.heap[b]? = some (.cells #[x, y, z] t (0, 0))) : (((w.setCell ⟨b, 0, none⟩ x').setCell ⟨b, 1, none⟩ y').setCell ⟨b, 2, none⟩ z').heap[b]? = some (.cells #[x', y', z'] t (0, 0)) := by
  have h1 := heap_setCell_same w b 0 _ _ x' h
  have h2 := heap_setCell_same _ b 1 _ _ y' h1
  exact heap_setCell_same _ b 2 _ _ z' h2
theorem new3_ {w w' : World} {b : Nat} {x y z : Value} (k : Only (fun _ => False) w w') (h : w.heap.size ≤ b) : Only (fun _ => False) w (((w'.setCell ⟨b, 0, none⟩ x).setCell ⟨b, 1, none⟩ y).setCell ⟨b, 2, none⟩ z) :=
  ((k.setCell_new (p := ⟨b, 0, none⟩) h x).setCell_new (p := ⟨b, 1, none⟩) h y).setCell_new (p := ⟨b, 2, none⟩) h z
def eN : Nat → Value → World → Value → Prop := fun x v _ _ => v = natV x
def eB : Bool → Value → World → Value → Prop := fun x v _ _ => v = .bool x
def eT : ByteArray → Value → World → Value → Prop := fun x v _ _ => v = .string x
def eU : Unit → Value → World → Value → Prop := fun _ v _ _ => v = .tuple #[]
abbrev ptr (pb : Nat) : Value := .pointer (some ⟨pb, 0, none⟩)
section
variable {F : Nat → Prop} {lo : Nat} {w0 : World} {a : Option Addr} {l : List Tok} {c pb : Nat} {w w' : World} {nv dv : Value} {s : PS}
theorem St.f0 (h : St F lo w0 a l c pb w nv dv s) : w.cell? ⟨pb, 0, none⟩ = some (.slice a l.length c) := (cellOf h.cells 0).trans rfl
theorem St.f1 (h : St F lo w0 a l c pb w nv dv s) : w.cell? ⟨pb, 1, none⟩ = some (.int .i64 (s.at_ : Nat)) := (cellOf h.cells 1).trans rfl
theorem St.f2 (h : St F lo w0 a l c pb w nv dv s) : w.cell? ⟨pb, 2, none⟩ = some nv := (cellOf h.cells 2).trans rfl
theorem St.f3 (h : St F lo w0 a l c pb w nv dv s) : w.cell? ⟨pb, 3, none⟩ = some dv := (cellOf h.cells 3).trans rfl

set_option maxHeartbeats 1000000 in
theorem next_calls (h : St F lo w0 a l c pb w nv dv s) : Calls Try.prog 22 #[ptr pb] w fun e w' => ∃ q, e = .returned (.agg #[.int .i64 (syn.next l s).1, .string (syn.next l s).2, .int .i64 q]) ∧ Only (fun _ => False) w w' := by
  have H := Lib.hid h
  have HA : Hid (a = a) := Lib.hid rfl
  have hpos := h.pos
  have hfew := h.few
  clear h
  obtain ⟨k, t, hnx⟩ : ∃ k t, syn.next l s = (k, t) := ⟨_, _, rfl⟩
  rw [hnx]
  have HNX := Lib.hid hnx
  clear hnx
  go_enter Try.func22, Try.ntmps22
  go_wp2_with fail
  by_cases hlt : s.at_ < l.length
  · have hlti : (s.at_ : Int) < (l.length : Int) := by omega
    have hk : l[s.at_]? = some (k, t) := by
      obtain ⟨y, hy⟩ : ∃ y, l[s.at_]? = some y := ⟨_, List.getElem?_eq_getElem hlt⟩
      have := HNX.out
      unfold syn.next at this
      rw [List.getD_eq_getElem?_getD, hy] at this
      rw [hy, ← this]
      rfl
    have HK := Lib.hid hk
    clear hk
    refine wp_region_grow (Only (fun _ => False)) (fun | _ => none) (by kernel_rfl) (by kernel_rfl) (Only.refl _) (fun _ _ _ => Only.trans) ?_ ?_
    · intro i V hV
      cases hV
    simp only [List.zipIdx_cons, List.zipIdx_nil, Nat.zero_add, Nat.reduceAdd]
    iterate 3 (refine grow_det ?_ rfl (fun w' => ?_) ?_; rotate_left 1; (unfold Runs; go_simp; rfl); try simp only [Act.put, List.setIfInBounds_toArray, List.set_cons_zero, List.set_cons_succ])
    refine grow_read (.int .i64 (s.at_ : Nat)) rfl (fun w' hr hf => ?_) ?_
    · have h1 : w'.cell? ⟨pb, 1, none⟩ = some (.int .i64 (s.at_ : Nat)) := (H.out.grow (Only.trans ((Only.refl _ w).alloc _).drew hr)).f1
      unfold Runs
      go_simp
    simp only [Act.put, List.setIfInBounds_toArray, List.set_cons_zero, List.set_cons_succ]
    iterate 3 (refine grow_det ?_ rfl (fun w' => ?_) ?_; rotate_left 1; (unfold Runs; go_simp; rfl); try simp only [Act.put, List.setIfInBounds_toArray, List.set_cons_zero, List.set_cons_succ])
    refine grow_read (.slice a l.length c) rfl (fun w' hr hf => ?_) ?_
    · have h1 : w'.cell? ⟨pb, 0, none⟩ = some (.slice a l.length c) := (H.out.grow (Only.trans ((Only.refl _ w).alloc _).drew hr)).f0
      unfold Runs
      go_simp
    simp only [Act.put, List.setIfInBounds_toArray, List.set_cons_zero, List.set_cons_succ]
    iterate 2 (refine grow_det ?_ rfl (fun w' => ?_) ?_; rotate_left 1; (unfold Runs; go_simp; rfl); try simp only [Act.put, List.setIfInBounds_toArray, List.set_cons_zero, List.set_cons_succ])
    refine grow_end (fun w8 hr hf => ?_)
    clear hf
    have O8 := Lib.hid (Only.trans ((Only.refl (fun _ => False) w).alloc _).drew hr)
    have HB8 := Lib.hid (hr.keeps (w := (w.alloc _).drew) (heap_alloc_new w (.cells #[.int .i64 0, .string ⟨#[]⟩, .int .i64 0] 37)) (fun e => e))
    clear hr
    go_wp2_with fail
    obtain ⟨x, q, hx, hxb, h0, h1, h2⟩ := H.out.word s.at_ k t HK.out
    subst hx
    have HX := Lib.hid (show ∀ w', Only (fun _ => False) w w' → w'.cell? (x.add (s.at_ * 3)) = some (.int .i64 k) ∧ w'.cell? ⟨(x.add (s.at_ * 3)).block, (x.add (s.at_ * 3)).off + 1, none⟩ = some (.string t) ∧ w'.cell? ⟨(x.add (s.at_ * 3)).block, (x.add (s.at_ * 3)).off + 2, none⟩ = some (.int .i64 q) from fun w' hr => ⟨kept_ hr h0, kept_ hr h1, kept_ hr h2⟩)
    clear h0 h1 h2
    refine wp_region_growT 10 (Only (fun _ => False)) (fun | _ => none) (by kernel_rfl) (by kernel_rfl) (by kernel_rfl) (by kernel_rfl) (by kernel_rfl) (Only.refl _) (fun _ _ _ => Only.trans) ?_ ?_
    · intro i V hV
      cases hV
    simp only [List.zipIdx_cons, List.zipIdx_nil, Nat.zero_add, Nat.reduceAdd, List.take_succ_cons, List.take_zero, List.drop_succ_cons, List.drop_zero]
    iterate 3 (refine grow_det ?_ rfl (fun w' => ?_) ?_; rotate_left 1; (unfold Runs; go_simp; rfl); try simp only [Act.put, List.setIfInBounds_toArray, List.set_cons_zero, List.set_cons_succ])
    refine grow_read (.slice (some x) l.length c) rfl (fun w' hr hf => ?_) ?_
    · have h1 := (H.out.grow (Only.trans O8.out.drew hr)).f0
      unfold Runs
      go_simp
    simp only [Act.put, List.setIfInBounds_toArray, List.set_cons_zero, List.set_cons_succ]
    iterate 3 (refine grow_det ?_ rfl (fun w' => ?_) ?_; rotate_left 1; (unfold Runs; go_simp; rfl); try simp only [Act.put, List.setIfInBounds_toArray, List.set_cons_zero, List.set_cons_succ])
    refine grow_read (.int .i64 (s.at_ : Nat)) rfl (fun w' hr hf => ?_) ?_
    · have h1 := (H.out.grow (Only.trans O8.out.drew hr)).f1
      unfold Runs
      go_simp
    simp only [Act.put, List.setIfInBounds_toArray, List.set_cons_zero, List.set_cons_succ]
    iterate 1 (refine grow_det ?_ rfl (fun w' => ?_) ?_; rotate_left 1; (unfold Runs; go_simp; rfl); try simp only [Act.put, List.setIfInBounds_toArray, List.set_cons_zero, List.set_cons_succ])
    refine grow_read (.agg #[.int .i64 k, .string t, .int .i64 q]) rfl (fun w' hr hf => ?_) ?_
    · obtain ⟨h0, h1, h2⟩ := HX.out w' (Only.trans O8.out.drew hr)
      unfold Runs
      go_simp
    simp only [Act.put, List.setIfInBounds_toArray, List.set_cons_zero, List.set_cons_succ]
    intro w9 hr hf
    clear hf
    have O9 := Lib.hid (Only.trans O8.out.drew hr)
    have HB9 := Lib.hid (hr.keeps (w := w8.drew) HB8.out (fun e => e))
    clear hr
    obtain ⟨⟨b0, b1, b2⟩, g0, g1, g2⟩ := trip_ HB9.out
    go_wp2_with fail
    refine bodyPost_ret (results_cell_row (fn := Try.f22) rfl _ _ w.heap.size _ _ _ _ rfl (set3_ HB9.out) Try.underlying37 rfl (by kernel_rfl)) rfl (by first | exact ⟨⟨_, rfl⟩, new3_ O9.out (Nat.le_refl _)⟩ | exact ⟨_, rfl, new3_ O9.out (Nat.le_refl _)⟩)
  · have hlti : ¬ (s.at_ : Int) < (l.length : Int) := by omega
    have hnx : (k, t) = ((0 : Int), (⟨#[]⟩ : ByteArray)) := HNX.out.symm.trans (syn.next_end (by omega))
    obtain ⟨rfl, rfl⟩ := Prod.mk.inj hnx
    clear hnx
    refine wp_region_grow (Only (fun _ => False)) (fun | _ => none) (by kernel_rfl) (by kernel_rfl) (Only.refl _) (fun _ _ _ => Only.trans) ?_ ?_
    · intro i V hV
      cases hV
    simp only [List.zipIdx_cons, List.zipIdx_nil, Nat.zero_add, Nat.reduceAdd]
    iterate 3 (refine grow_det ?_ rfl (fun w' => ?_) ?_; rotate_left 1; (unfold Runs; go_simp; rfl); try simp only [Act.put, List.setIfInBounds_toArray, List.set_cons_zero, List.set_cons_succ])
    refine grow_read (.int .i64 (s.at_ : Nat)) rfl (fun w' hr hf => ?_) ?_
    · have h1 : w'.cell? ⟨pb, 1, none⟩ = some (.int .i64 (s.at_ : Nat)) := (H.out.grow (Only.trans ((Only.refl _ w).alloc _).drew hr)).f1
      unfold Runs
      go_simp
    simp only [Act.put, List.setIfInBounds_toArray, List.set_cons_zero, List.set_cons_succ]
    iterate 3 (refine grow_det ?_ rfl (fun w' => ?_) ?_; rotate_left 1; (unfold Runs; go_simp; rfl); try simp only [Act.put, List.setIfInBounds_toArray, List.set_cons_zero, List.set_cons_succ])
    refine grow_read (.slice a l.length c) rfl (fun w' hr hf => ?_) ?_
    · have h1 : w'.cell? ⟨pb, 0, none⟩ = some (.slice a l.length c) := (H.out.grow (Only.trans ((Only.refl _ w).alloc _).drew hr)).f0
      unfold Runs
      go_simp
    simp only [Act.put, List.setIfInBounds_toArray, List.set_cons_zero, List.set_cons_succ]
    iterate 2 (refine grow_det ?_ rfl (fun w' => ?_) ?_; rotate_left 1; (unfold Runs; go_simp; rfl); try simp only [Act.put, List.setIfInBounds_toArray, List.set_cons_zero, List.set_cons_succ])
    refine grow_end (fun w8 hr hf => ?_)
    clear hf
    have O8 := Lib.hid (Only.trans ((Only.refl (fun _ => False) w).alloc _).drew hr)
    have HB8 := Lib.hid (hr.keeps (w := (w.alloc _).drew) (heap_alloc_new w (.cells #[.int .i64 0, .string ⟨#[]⟩, .int .i64 0] 37)) (fun e => e))
    clear hr
    obtain ⟨⟨b0, b1, b2⟩, g0, g1, g2⟩ := trip_ HB8.out
    go_wp2_with fail
    refine bodyPost_ret (results_cell_row (fn := Try.f22) rfl _ _ w.heap.size _ _ _ _ rfl (set3_ HB8.out) Try.underlying37 rfl (by kernel_rfl)) rfl ⟨⟨_, rfl⟩, new3_ O8.out (Nat.le_refl _)⟩

theorem sure_yes (v : Value) (w : World) : Calls Try.prog 36 #[v, .bool true] w fun e w' => e = .returned (.tuple #[]) ∧ w' = w := by
  go_enter Try.func36, Try.ntmps36
  go_wp2_with fail
  exact bodyPost_end (results_none rfl _ _ _) rfl ⟨rfl, rfl⟩
theorem sure_no (v : Value) (w : World) : Calls Try.prog 36 #[v, .bool false] w fun e w' => e = wrongE ∧ w' = w := by
  go_enter Try.func36, Try.ntmps36
  go_wp2_with fail
  exact ⟨rfl, rfl, rfl⟩

theorem strings_get (ops : List ByteArray) (j : Nat) (h : j < ops.length) : (ops.map Value.string).toArray[j]? = some (.string (ops.getD j ByteArray.empty)) := by
  simp [List.getD_eq_getElem?_getD, List.getElem?_eq_getElem h]
set_option maxHeartbeats 1000000 in
theorem sees_calls (h : St F lo w0 a l c pb w nv dv s) (kind : Int) (ops : List ByteArray) (g cc : Nat) (hops : w.heap[g]? = some (.cells (ops.map Value.string).toArray 9 (0, 0))) (hlen : ops.length ≤ 1000) :
    Calls Try.prog 34 #[ptr pb, .int .i64 kind, .slice (some ⟨g, 0, none⟩) ops.length cc] w fun e w' => e = .returned (.bool (syn.isOne kind ops (syn.next l s))) ∧ Only (fun _ => False) w w' := by
  have HN := Lib.hid (next_calls h)
  have HO := Lib.hid hops
  clear hops h
  obtain ⟨k, t, hnx⟩ : ∃ k t, syn.next l s = (k, t) := ⟨_, _, rfl⟩
  rw [hnx] at HN ⊢
  clear hnx
  unfold syn.isOne
  by_cases hk : k = kind
  · subst hk
    simp only [decide_true, Bool.true_and]
    go_enter Try.func34, Try.ntmps34
    go_wp2_with fail
    refine HN.out.mono ?_
    rintro e w1 ⟨q, rfl, o1⟩
    have O1 := Lib.hid o1
    clear o1
    go_wp2_with fail
    have O2 := Lib.hid (O1.out.trans ((Only.refl _ w1).alloc (.cells #[.int .i64 k, .string t, .int .i64 q] 37)))
    refine (sh_slices_Contains_string g 0 ops.length cc ops t _ (Nat.le_refl _) (by omega) (fun j hj => by
      rw [cellOf (O2.out.keeps HO.out (fun e => e)), Nat.zero_add]
      exact strings_get ops j hj)).mono ?_
    rintro e w3 ⟨rfl, rfl⟩
    rw [List.take_length]
    clear O1
    go_wp2_with fail
    go_ret
    exact ⟨rfl, O2.out⟩
  · rw [decide_eq_false hk, Bool.false_and]
    go_enter Try.func34, Try.ntmps34
    go_wp2_with fail
    refine HN.out.mono ?_
    rintro e w1 ⟨q, rfl, o1⟩
    have O1 := Lib.hid o1
    clear o1
    go_wp2_with fail
    go_ret
    exact ⟨rfl, O1.out.trans ((Only.refl _ w1).alloc _)⟩

theorem St.at_word (h : St F lo w0 a l c pb w nv dv s) (hp : s.at_ < l.length) : ∃ (x : Addr) (q : Int), a = some x ∧ w.cell? ⟨(x.add (s.at_ * 3)).block, (x.add (s.at_ * 3)).off + 1, none⟩ = some (.string (syn.next l s).2) := by
  obtain ⟨⟨k, t⟩, hk⟩ : ∃ y, l[s.at_]? = some y := ⟨_, List.getElem?_eq_getElem hp⟩
  obtain ⟨x, q, hx, -, -, h1, -⟩ := h.word s.at_ k t hk
  refine ⟨x, q, hx, ?_⟩
  unfold syn.next
  rw [List.getD_eq_getElem?_getD, hk]
  exact h1
set_option maxHeartbeats 1000000 in
theorem take_calls (h : St F lo w0 a l c pb w nv dv s) (hp : s.at_ < l.length) : Calls Try.prog 23 #[ptr pb] w fun e w' => e = .returned (.string (syn.next l s).2) ∧ St F lo w0 a l c pb w' nv dv { s with at_ := s.at_ + 1 } ∧ Wr pb nv dv w w' nv dv := by
  have hfew := h.few
  have f1 := h.f1
  have g1 := freeOf h.cells 1
  have hww : IntKind.i64.wrap ((s.at_ : Int) + 1) = ((s.at_ + 1 : Nat) : Int) := by rw [IntWalk.i64_in _ (by omega)]; omega
  obtain ⟨h2, hw2⟩ := h.adv hp
  obtain ⟨x, q, hx, -⟩ := h.at_word hp
  subst hx
  have HX := Lib.hid (show ∀ w', Only (fun _ => False) (w.setCell ⟨pb, 1, none⟩ (.int .i64 ((s.at_ + 1 : Nat) : Int))) w' → w'.cell? ⟨(x.add (s.at_ * 3)).block, (x.add (s.at_ * 3)).off + 1, none⟩ = some (.string (syn.next l s).2) from fun w' hr => by
    have h3 := h2.grow hr
    have h4 : WordsAt lo w' (some x) l := h3.word
    obtain ⟨⟨k, t⟩, hk⟩ : ∃ y, l[s.at_]? = some y := ⟨_, List.getElem?_eq_getElem hp⟩
    obtain ⟨x', q', hx', -, -, h5, -⟩ := h4 s.at_ k t hk
    cases hx'
    unfold syn.next
    rw [List.getD_eq_getElem?_getD, hk]
    exact h5)
  have H2 := Lib.hid h2
  have W2 := Lib.hid hw2
  clear h h2 hw2
  generalize (syn.next l s).2 = t at *
  go_enter Try.func23, Try.ntmps23
  go_upto_region 2 with fail
  clear f1 g1
  refine wp_region_grow (Only (fun _ => False)) (fun | _ => none) (by kernel_rfl) (by kernel_rfl) (Only.refl _) (fun _ _ _ => Only.trans) ?_ ?_
  · intro i V hV
    cases hV
  simp only [List.zipIdx_cons, List.zipIdx_nil, Nat.zero_add, Nat.reduceAdd]
  iterate 3 (refine grow_det ?_ rfl (fun w' => ?_) ?_; rotate_left 1; (unfold Runs; go_simp; rfl); try simp only [Act.put, List.setIfInBounds_toArray, List.set_cons_zero, List.set_cons_succ])
  refine grow_read (.slice (some x) l.length c) rfl (fun w' hr hf => ?_) ?_
  · have h1 := (H2.out.grow (Only.trans (Only.refl _ _).drew hr)).f0
    unfold Runs
    go_simp
  simp only [Act.put, List.setIfInBounds_toArray, List.set_cons_zero, List.set_cons_succ]
  iterate 3 (refine grow_det ?_ rfl (fun w' => ?_) ?_; rotate_left 1; (unfold Runs; go_simp; rfl); try simp only [Act.put, List.setIfInBounds_toArray, List.set_cons_zero, List.set_cons_succ])
  refine grow_read (.int .i64 ((s.at_ + 1 : Nat) : Int)) rfl (fun w' hr hf => ?_) ?_
  · have h1 := (H2.out.grow (Only.trans (Only.refl _ _).drew hr)).f1
    unfold Runs
    go_simp
  simp only [Act.put, List.setIfInBounds_toArray, List.set_cons_zero, List.set_cons_succ]
  have hws : IntKind.i64.wrap (s.at_ : Int) = (s.at_ : Int) := IntWalk.i64_in _ (by omega)
  have hpi : (s.at_ : Int) < (l.length : Int) := by omega
  iterate 3 (refine grow_det ?_ rfl (fun w' => ?_) ?_; rotate_left 1; (unfold Runs; go_simp; rfl); try simp only [Act.put, List.setIfInBounds_toArray, List.set_cons_zero, List.set_cons_succ])
  refine grow_read (.string t) rfl (fun w' hr hf => ?_) ?_
  · have h1 := HX.out w' (Only.trans (Only.refl _ _).drew hr)
    unfold Runs
    go_simp
  simp only [Act.put, List.setIfInBounds_toArray, List.set_cons_zero, List.set_cons_succ]
  iterate 1 (refine grow_det ?_ rfl (fun w' => ?_) ?_; rotate_left 1; (unfold Runs; go_simp; rfl); try simp only [Act.put, List.setIfInBounds_toArray, List.set_cons_zero, List.set_cons_succ])
  refine grow_end (fun w9 hr hf => ?_)
  clear hf
  have O9 := Lib.hid (Only.trans (Only.refl _ _).drew hr)
  clear hr
  go_wp2_with fail
  go_ret
  exact ⟨rfl, H2.out.grow O9.out, W2.out.trans (Wr.same nv dv O9.out)⟩

theorem may_yes {kind : Int} {text : ByteArray} (h : syn.isOne kind [text] (syn.next l s) = true) : syn.may kind text l s = .ok true { s with at_ := s.at_ + 1 } := by
  unfold syn.may syn.Pr.bind syn.acc syn.is
  rw [if_pos h]
  rfl
theorem may_no {kind : Int} {text : ByteArray} (h : syn.isOne kind [text] (syn.next l s) = false) : syn.may kind text l s = .ok false s := by
  unfold syn.may syn.Pr.bind syn.acc syn.is
  rw [if_neg (by rw [h]; decide)]
  rfl
theorem may_ok (kind : Int) (text : ByteArray) : ∃ b s1, syn.may kind text l s = .ok b s1 := by
  obtain ⟨y, hy⟩ : ∃ y, syn.isOne kind [text] (syn.next l s) = y := ⟨_, rfl⟩
  cases y
  · exact ⟨_, _, may_no hy⟩
  · exact ⟨_, _, may_yes hy⟩
theorem one_lt {kind : Int} {ops : List ByteArray} (hk : kind ≠ 0) (h : syn.isOne kind ops (syn.next l s) = true) : s.at_ < l.length := by
  rcases Nat.lt_or_ge s.at_ l.length with h1 | h1
  · exact h1
  · rw [syn.next_end h1, syn.isOne_end hk] at h; cases h
theorem post_ok {α : Type} {enc : α → Value → World → Value → Prop} {r : syn.Res α} {x : α} {s' : PS} (hr : r = .ok x s') {nv' dv' v : Value} (hw : Wr pb nv dv w w' nv' dv') (he : enc x v w' dv') (hs : St F lo w0 a l c pb w' nv' dv' s') : Post F lo w0 a l c pb enc r nv dv w (.returned v) w' :=
  ⟨nv', dv', hw, by rw [hr]; exact ⟨v, rfl, he, hs⟩⟩
theorem post_bad {α : Type} {enc : α → Value → World → Value → Prop} {r : syn.Res α} {q : Nat} {s' : PS} (hr : r = .bad q) {nv' dv' : Value} (hw : Wr pb nv dv w w' nv' dv') (hq : s'.at_ = q) (hs : St F lo w0 a l c pb w' nv' dv' s') : Post F lo w0 a l c pb enc r nv dv w wrongE w' :=
  ⟨nv', dv', hw, by rw [hr]; exact ⟨rfl, s', hq, hs⟩⟩
set_option maxHeartbeats 1000000 in
theorem may_calls (h : St F lo w0 a l c pb w nv dv s) (kind : Int) (hk : kind ≠ 0) (text : ByteArray) :
    Calls Try.prog 17 #[ptr pb, .int .i64 kind, .string text] w fun e w' => Post F lo w0 a l c pb eB (syn.may kind text l s) nv dv w e w' := by
  have o1 := (Only.refl (fun _ => False) w).alloc (.cells #[.string text] 9)
  have h1 := h.grow o1
  have hs := sees_calls h1 kind [text] w.heap.size 1 (heap_alloc_new w _) (by simp)
  obtain ⟨y, hy⟩ : ∃ y, syn.isOne kind [text] (syn.next l s) = y := ⟨_, rfl⟩
  rw [hy] at hs
  have hfew := h.few
  have HS := Lib.hid hs
  have H1 := Lib.hid h1
  have O1 := Lib.hid o1
  have HY := Lib.hid hy
  clear h h1 o1 hs hy
  cases y with
  | true =>
    have hp := one_lt hk HY.out
    rw [may_yes HY.out]
    go_enter Try.func17, Try.ntmps17
    go_wp2_with fail
    refine HS.out.mono ?_
    rintro e w2 ⟨rfl, o2⟩
    have h2 := H1.out.grow o2
    have f1 := h2.f1
    have g1 := freeOf h2.cells 1
    obtain ⟨h3, hw3⟩ := h2.adv hp
    have H3 := Lib.hid h3
    have W3 := Lib.hid ((Wr.same (pb := pb) nv dv (O1.out.trans o2)).trans hw3)
    have hww : IntKind.i64.wrap ((s.at_ : Int) + 1) = ((s.at_ + 1 : Nat) : Int) := by rw [IntWalk.i64_in _ (by omega)]; omega
    clear h2 h3 hw3 o2
    go_wp2_with fail
    go_ret
    exact post_ok rfl W3.out rfl H3.out
  | false =>
    rw [may_no HY.out]
    go_enter Try.func17, Try.ntmps17
    go_wp2_with fail
    refine HS.out.mono ?_
    rintro e w2 ⟨rfl, o2⟩
    have H2 := Lib.hid (H1.out.grow o2)
    have W2 := Lib.hid (Wr.same (pb := pb) nv dv (O1.out.trans o2))
    clear o2
    go_wp2_with fail
    go_ret
    exact post_ok rfl W2.out rfl H2.out
theorem must_calls (h : St F lo w0 a l c pb w nv dv s) (text : ByteArray) :
    Calls Try.prog 24 #[ptr pb, .string text] w fun e w' => Post F lo w0 a l c pb eU (syn.must text l s) nv dv w e w' := by
  have HM := Lib.hid (may_calls h 7 (by decide) text)
  unfold syn.must syn.Pr.bind
  clear h
  obtain ⟨b, s1, hm⟩ := may_ok (l := l) (s := s) 7 text
  rw [hm] at HM
  simp only [hm]
  clear hm
  cases b with
  | true =>
    simp only [if_true]
    go_enter Try.func24, Try.ntmps24
    go_wp2_with fail
    refine HM.out.mono ?_
    rintro e w1 ⟨nv1, dv1, W1, v, rfl, rfl, S1⟩
    have W1 := Lib.hid W1
    have S1 := Lib.hid S1
    go_wp2_with fail
    refine (sure_yes _ _).mono ?_
    rintro e w2 ⟨rfl, rfl⟩
    go_wp2_with fail
    exact bodyPost_end (results_none rfl _ _ _) rfl (post_ok rfl W1.out rfl S1.out)
  | false =>
    simp only [Bool.false_eq_true, if_false]
    go_enter Try.func24, Try.ntmps24
    go_wp2_with fail
    refine HM.out.mono ?_
    rintro e w1 ⟨nv1, dv1, W1, v, rfl, rfl, S1⟩
    have W1 := Lib.hid W1
    have S1 := Lib.hid S1
    go_wp2_with fail
    refine (sure_no _ _).mono ?_
    rintro e w2 ⟨rfl, rfl⟩
    exact ⟨rfl, post_bad rfl W1.out rfl S1.out⟩
set_option maxHeartbeats 1000000 in
theorem any_calls (h : St F lo w0 a l c pb w nv dv s) (kind : Int) (hk : kind ≠ 0) :
    Calls Try.prog 38 #[ptr pb, .int .i64 kind] w fun e w' => Post F lo w0 a l c pb eT (syn.any kind l s) nv dv w e w' := by
  have HN := Lib.hid (next_calls h)
  have H := Lib.hid h
  clear h
  by_cases hkd : (syn.next l s).1 = kind
  · have hp : s.at_ < l.length := by
      rcases Nat.lt_or_ge s.at_ l.length with h1 | h1
      · exact h1
      · rw [syn.next_end h1] at hkd; exact absurd hkd.symm hk
    have hs : syn.any kind l s = .ok (syn.next l s).2 { s with at_ := s.at_ + 1 } := by
      unfold syn.any syn.Pr.bind syn.acc
      rw [if_pos (decide_eq_true hkd)]
      rfl
    rw [hs]
    rw [hkd] at HN
    clear hs hkd
    have hfd := fld0_
    go_enter Try.func38, Try.ntmps38
    go_wp2_with fail
    refine HN.out.mono ?_
    rintro e w1 ⟨q, rfl, o1⟩
    have O1 := Lib.hid o1
    clear o1
    go_wp2_with fail
    refine (sure_yes _ _).mono ?_
    rintro e w2 ⟨rfl, rfl⟩
    have HT := Lib.hid (take_calls (H.out.grow O1.out) hp)
    go_wp2_with fail
    refine HT.out.mono ?_
    rintro e w3 ⟨rfl, h3, hw3⟩
    have H3 := Lib.hid h3
    have W3 := Lib.hid ((Wr.same (pb := pb) nv dv O1.out).trans hw3)
    clear h3 hw3
    go_wp2_with fail
    go_ret
    exact post_ok rfl W3.out rfl H3.out
  · have hs : syn.any kind l s = .bad s.at_ := by
      unfold syn.any syn.Pr.bind syn.acc
      rw [if_neg (by simpa using hkd)]
      rfl
    rw [hs]
    clear hs
    have hfd := fld0_
    generalize (syn.next l s).1 = kq at *
    generalize (syn.next l s).2 = tq at *
    go_enter Try.func38, Try.ntmps38
    go_wp2_with fail
    refine HN.out.mono ?_
    rintro e w1 ⟨q, rfl, o1⟩
    have O1 := Lib.hid o1
    clear o1
    go_wp2_with fail
    rw [show (kq == kind) = false from beq_false_of_ne hkd]
    refine (sure_no _ _).mono ?_
    rintro e w2 ⟨rfl, rfl⟩
    exact ⟨rfl, post_bad rfl (Wr.same (pb := pb) nv dv O1.out) rfl (H.out.grow O1.out)⟩
def kwVals : Array Value := (syn.keywords.map Value.string).toArray
theorem keyword_calls (w : World) (t : ByteArray) : Calls Try.prog 37 #[.string t] w fun e w' => e = .returned (.bool (Lib.containsS syn.keywords t)) ∧ Only (fun _ => False) w w' := by
  go_enter Try.func37, Try.ntmps37
  go_wp2_with fail
  have o1 := (Only.refl (fun _ => False) w).alloc (.cells kwVals 9)
  refine (sh_slices_Contains_string w.heap.size 0 9 9 syn.keywords t _ (by decide) (by decide) (fun j hj => by
    have h1 := heap_alloc_new w (.cells kwVals 9)
    rw [Nat.zero_add]
    exact (cellOf h1 j).trans (strings_get syn.keywords j hj))).mono ?_
  rintro e w3 ⟨rfl, rfl⟩
  rw [show syn.keywords.take 9 = syn.keywords from rfl]
  go_wp2_with fail
  go_ret
  exact ⟨rfl, o1⟩
set_option maxHeartbeats 1000000 in
theorem name_calls (h : St F lo w0 a l c pb w nv dv s) :
    Calls Try.prog 19 #[ptr pb] w fun e w' => Post F lo w0 a l c pb eT (syn.name l s) nv dv w e w' := by
  have HN := Lib.hid (next_calls h)
  have H := Lib.hid h
  have hs : syn.name l s = if Lib.containsS syn.keywords (syn.next l s).2 = true then .bad s.at_ else syn.any 1 l s := by
    show (if Lib.containsS syn.keywords (syn.next l s).2 = true then syn.fail else syn.any 1) l s = _
    split <;> rfl
  rw [hs]
  clear h hs
  obtain ⟨y, hy⟩ : ∃ y, Lib.containsS syn.keywords (syn.next l s).2 = y := ⟨_, rfl⟩
  have HK := Lib.hid (fun w => keyword_calls w (syn.next l s).2)
  rw [hy] at HK ⊢
  clear hy
  have hfd := fld1_
  cases y with
  | true =>
    simp only [if_true]
    go_enter Try.func19, Try.ntmps19
    go_wp2_with fail
    refine HN.out.mono ?_
    rintro e w1 ⟨q, rfl, o1⟩
    have O1 := Lib.hid o1
    clear o1
    go_wp2_with fail
    refine (HK.out _).mono ?_
    rintro e w2 ⟨rfl, o2⟩
    have O2 := Lib.hid (O1.out.trans o2)
    clear o2
    go_wp2_with fail
    refine (sure_no _ _).mono ?_
    rintro e w3 ⟨rfl, rfl⟩
    exact ⟨rfl, post_bad rfl (Wr.same (pb := pb) nv dv O2.out) rfl (H.out.grow O2.out)⟩
  | false =>
    simp only [Bool.false_eq_true, if_false]
    go_enter Try.func19, Try.ntmps19
    go_wp2_with fail
    refine HN.out.mono ?_
    rintro e w1 ⟨q, rfl, o1⟩
    have O1 := Lib.hid o1
    clear o1
    go_wp2_with fail
    refine (HK.out _).mono ?_
    rintro e w2 ⟨rfl, o2⟩
    have O2 := Lib.hid (O1.out.trans o2)
    clear o2
    go_wp2_with fail
    refine (sure_yes _ _).mono ?_
    rintro e w3 ⟨rfl, rfl⟩
    have HA := Lib.hid (any_calls (H.out.grow O2.out) 1 (by decide))
    go_wp2_with fail
    refine HA.out.mono ?_
    rintro e w4 ⟨nv4, dv4, W4, hr⟩
    have W5 := Lib.hid ((Wr.same (pb := pb) nv dv O2.out).trans W4)
    clear W4
    cases hn : syn.any 1 l s with
    | bad q =>
      rw [hn] at hr
      obtain ⟨rfl, s', hq, hs⟩ := hr
      exact ⟨rfl, post_bad hn W5.out hq hs⟩
    | ok t s' =>
      rw [hn] at hr
      obtain ⟨v, rfl, rfl, hs⟩ := hr
      have HS := Lib.hid hs
      have HN2 := Lib.hid hn
      clear hs hn
      go_wp2_with fail
      go_ret
      exact post_ok HN2.out W5.out rfl HS.out
end
end Go.Proofs.Ytoggcdldoinbnaa
