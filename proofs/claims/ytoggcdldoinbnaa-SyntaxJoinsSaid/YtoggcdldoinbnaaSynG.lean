/- The parser's whole. -/
import Derived.Test.YtoggcdldoinbnaaSynA
namespace Go.Proofs.Ytoggcdldoinbnaa
open Go.RowKit
open syn (Tok Nd PS)
set_option linter.unusedVariables false
set_option linter.unusedSimpArgs false

section
variable {F : Nat → Prop} {lo : Nat} {w0 : World} {a : Option Addr} {l : List Tok} {c pb : Nat} {w w' : World} {nv dv nv' dv' : Value} {s : PS}
theorem bind_congr_ {α β : Type} {p q : syn.Pr α} {g : α → syn.Pr β} {l : List Tok} {s s' : PS} (h : p l s = q l s') : (p.bind g) l s = (q.bind g) l s' := by unfold syn.Pr.bind; rw [h]
theorem gather_more {K f : Nat} {xs : List Nat} (h : s.at_ < l.length) : syn.gatherGo K (f + 1) xs l s = ((syn.statement K K).bind fun x => syn.gatherGo K f (xs ++ [x])) l s := by
  show (if decide (l.length ≤ s.at_) = true then _ else _ : syn.Pr _) l s = _
  rw [if_neg (by simp; omega)]
theorem gather_done {K f : Nat} {xs : List Nat} (h : l.length ≤ s.at_) : syn.gatherGo K (f + 1) xs l s = .ok xs s := by
  show (if decide (l.length ≤ s.at_) = true then _ else _ : syn.Pr _) l s = _
  rw [if_pos (by simp; omega)]
  rfl
/-- A variable of another kind was written. -/
theorem St.flip (h : St F lo w0 a l c pb w nv dv s) {b : Nat} {cs : Array Value} {z : Nat × Nat} (hb : w.heap[b]? = some (.cells cs 4 z)) (hlb : lo ≤ b) (o : Only (fun q => q = b) w w') : St F lo w0 a l c pb w' nv dv s := by
  have hpb : ¬ pb = b := fun e => by
    subst e
    exact absurd (two_ty h.cells hb) (by decide)
  obtain ⟨kv, h1, h2, h3⟩ := h.nodes
  have hnv : ∀ q, nv.ownBlock = some q → ¬ q = b := fun q e e2 => by
    subst e2
    obtain ⟨c5, z5, h5⟩ := Lib.ownsRow_kind h2 q e
    exact absurd (two_ty h5 hb) (by decide)
  have hdv : ∀ q, dv.ownBlock = some q → ¬ q = b := fun q e e2 => by
    subst e2
    obtain ⟨c5, z5, h5⟩ := Lib.ownsRow_kind h.depth q e
    exact absurd (two_ty h5 hb) (by decide)
  refine ⟨o.below h.below h.hlo (fun i e => by subst e; exact hlb), Nat.le_trans h.hlo o.size, h.hpb, h.words, h.few, o.keeps h.cells hpb, h.pos, ⟨kv, h1, own_keep h2 o hnv, fun i nd u h4 h5 => ?_⟩, own_keep h.depth o hdv, h.same, h.small, h.deep, fun q e => Nat.lt_of_lt_of_le (h.fin q e) o.size⟩
  rcases h3 i nd u h4 h5 with h6 | ⟨g, cc, cur, e, h7, h8, h9, h10, h11⟩
  · exact .inl h6
  · refine .inr ⟨g, cc, cur, e, h7, o.keeps h8 (fun e2 => ?_), h9, h10, h11⟩
    subst e2
    exact absurd (two_ty h8 hb) (by decide)
/-- The whole text was read, or a word was wrong. -/
def PostA (F : Nat → Prop) (lo : Nat) (w0 : World) (a : Option Addr) (l : List Tok) (c pb : Nat) (r : syn.Res Nat) (nv dv : Value) (w : World) : Ending → World → Prop := fun e w' => ∃ nv' dv' s', Only (fun q => q = pb ∨ nv.ownBlock = some q ∨ dv.ownBlock = some q) w w' ∧ St F lo w0 a l c pb w' nv' dv' s' ∧ match r with
  | .ok _ s2 => e = .returned (.bool true) ∧ s' = s2
  | .bad q => e = .returned (.bool false) ∧ s'.at_ = q

theorem over_all {S : Nat → Prop} {b : Nat} {x y z u : World} (h : Only S x y) (k : Only S y z) (m : Only (fun q => q = b) z u) (hb : x.heap.size ≤ b := by exact Nat.le_refl _) : Only S x u :=
  ⟨m.os.trans (k.os.trans h.os), m.tape.trans (k.tape.trans h.tape), m.output.trans (k.output.trans h.output), Nat.le_trans h.size (Nat.le_trans k.size m.size), fun i hi e => (m.block i (by have := h.size; have := k.size; omega) (fun e2 => by omega)).trans ((k.block i (by have := h.size; omega) e).trans (h.block i hi e))⟩

set_option maxRecDepth 20000 in
set_option maxHeartbeats 4000000 in
theorem all_calls {K : Nat} (hK : l.length < K) (h : St F lo w0 a l c pb w nv dv s) (hsm : s.n.length ≤ 2 * s.at_) :
    Calls Try.prog 9 #[ptr pb] w fun e w' => PostA F lo w0 a l c pb (syn.all K K l s) nv dv w e w' := by
  have o0 := (Only.refl (fun _ => False) w).alloc (.cells #[.bool false] 4)
  have HB := Lib.hid (heap_alloc_new w (.cells #[.bool false] 4))
  have H := Lib.hid (h.grow o0)
  have W0 := Lib.hid (Wr.refl pb nv dv (w.alloc (.cells #[.bool false] 4)))
  have hfew := h.few
  have hlo0 := h.hlo
  obtain ⟨i1, hi1⟩ := int_info
  have HJ := Lib.hid hi1
  have hmf : ∀ (fn : Fn) (first cap : Array Value) (w : World), (Instr.makeFunc fn first cap).run Try.prog w = .ok (.func fn first cap) w := fun _ _ _ _ => rfl
  clear h o0 hi1
  go_enter_defers Try.func9, Try.ntmps9
  go_wp2_with fail
  go_loopg [3] (l.length) (fun gg v3 wr => ∃ (f : Nat) (xs : List Nat) (s1 : PS) (nv1 dv1 lv : Value), v3 = lv ∧ l.length - s1.at_ ≤ gg ∧ l.length - s1.at_ < f ∧ (∀ x ∈ xs, x < s1.n.length) ∧ s1.n.length ≤ 2 * s1.at_ ∧ s.at_ ≤ s1.at_ ∧ xs.length ≤ s1.at_ ∧ Hid (Loc F lo wr dv1 lv xs) ∧ Hid (St (fun q => F q ∨ lv.ownBlock = some q) lo w0 a l c pb wr nv1 dv1 s1) ∧ Hid (Wr pb nv dv (w.alloc (.cells #[.bool false] 4)) wr nv1 dv1) ∧ Hid (∀ q, lv.ownBlock = some q → (w.alloc (.cells #[.bool false] 4)).heap.size ≤ q) ∧ Hid (wr.heap[w.heap.size]? = some (.cells #[.bool false] 4 (0, 0))) ∧ Hid (syn.all K K l s = ((syn.gatherGo K f xs).bind fun l => syn.node 1 ⟨#[]⟩ l) l s1))
  case atStart => exact ⟨K, [], s, nv, dv, .slice none 0 0, rfl, by omega, by omega, (fun x hx => by cases hx), by omega, by omega, by simp, Lib.hid (Loc.nil F lo _ _), Lib.hid H.out.none_, W0, Lib.hid (fun q e => by cases e), HB, Lib.hid rfl⟩
  case round =>
    clear W0
    obtain ⟨f, xs, s20, nv20, dv20, lv, rfl, hgk, hf, hxs, hn20, ha20, hxl, LC20, S20, W20, FR20, HB20, EQ20⟩ := hrel
    obtain ⟨f, rfl⟩ : ∃ f', f = f' + 1 := ⟨f - 1, by omega⟩
    have hp20 := S20.out.pos
    have hxl9 : xs.length + 1 ≤ 9000 := by omega
    have HXL := Lib.hid hxl9
    clear hxl9
    rcases Nat.lt_or_ge s20.at_ l.length with hlt | hge
    · have hlti : (s20.at_ : Int) < (l.length : Int) := by omega
      go_wp2_with fail
      refine wp_region_grow (Only (fun _ => False)) (fun | _ => none) (by kernel_rfl) (by kernel_rfl) (Only.refl _) (fun _ _ _ => Only.trans) ?_ ?_
      · intro i V hV
        cases hV
      simp only [List.zipIdx_cons, List.zipIdx_nil, Nat.zero_add, Nat.reduceAdd]
      iterate 3 (refine grow_det ?_ rfl (fun w' => ?_) ?_; rotate_left 1; (unfold Runs; go_simp; rfl); try simp only [Act.put, List.setIfInBounds_toArray, List.set_cons_zero, List.set_cons_succ])
      refine grow_read (.int .i64 (s20.at_ : Nat)) rfl (fun w' hr hf => ?_) ?_
      · have h1 : w'.cell? ⟨pb, 1, none⟩ = some (.int .i64 (s20.at_ : Nat)) := (S20.out.grow (Only.trans (Only.refl _ wr).drew hr)).f1
        unfold Runs
        go_simp
      simp only [Act.put, List.setIfInBounds_toArray, List.set_cons_zero, List.set_cons_succ]
      iterate 3 (refine grow_det ?_ rfl (fun w' => ?_) ?_; rotate_left 1; (unfold Runs; go_simp; rfl); try simp only [Act.put, List.setIfInBounds_toArray, List.set_cons_zero, List.set_cons_succ])
      refine grow_read (.slice a l.length c) rfl (fun w' hr hf => ?_) ?_
      · have h1 : w'.cell? ⟨pb, 0, none⟩ = some (.slice a l.length c) := (S20.out.grow (Only.trans (Only.refl _ wr).drew hr)).f0
        unfold Runs
        go_simp
      simp only [Act.put, List.setIfInBounds_toArray, List.set_cons_zero, List.set_cons_succ]
      iterate 2 (refine grow_det ?_ rfl (fun w' => ?_) ?_; rotate_left 1; (unfold Runs; go_simp; rfl); try simp only [Act.put, List.setIfInBounds_toArray, List.set_cons_zero, List.set_cons_succ])
      refine grow_end (fun w8 hr hf => ?_)
      clear hf
      have O8 := Only.trans (Only.refl (fun _ => False) wr).drew hr
      clear hr
      have S21 := Lib.hid (S20.out.grow O8)
      have W21 := Lib.hid (W20.out.trans (Wr.same nv20 dv20 O8))
      have LC21 := Lib.hid (S20.out.loc LC20.out (Wr.same nv20 dv20 O8))
      have HB21 := Lib.hid (O8.keeps HB20.out (fun e => e))
      clear O8 S20 W20 LC20 HB20
      go_wp2_with fail
      refine (statement_part hK K (fun q => F q ∨ u3.ownBlock = some q) w8 nv20 dv20 s20 S21.out hn20 (by omega)).mono ?_
      rintro e w9 ⟨nv9, dv9, hw9, hr9⟩
      have W9 := Lib.hid (W21.out.trans hw9)
      have LC9 := Lib.hid (S21.out.loc LC21.out hw9)
      clear hw9
      cases hp9 : syn.statement K K l s20 with
      | bad q =>
        rw [hp9] at hr9
        obtain ⟨rfl, s', hq, hs⟩ := hr9
        have HB9 := H.out.keepT (t := 4) HB.out (by decide) W9.out
        have hlt9 := lt_of_heap HB9
        refine leaves_cons (f := 12) (args := #[.pointer (some ⟨w.heap.size, 0, none⟩)]) (by simp) (by simp [go_sem]) ?_
        refine (catch_wrong w.heap.size false [] _ ((cellOf HB9 0).trans rfl) (freeOf HB9 0) hlt9).mono ?_
        rintro e u' w'' ⟨rfl, rfl, o, rfl⟩
        have hb2 := (((Only.refl (fun q => q = w.heap.size) w9).setCell (p := ⟨w.heap.size, 0, none⟩) rfl (.bool false)).alloc o)
        have hs2 := (hs.less (fun q e => Or.inl e)).flip HB9 hlo0 hb2
        have hall : syn.all K K l s = .bad q := EQ20.out.trans (bind_bad ((gather_more hlt).trans (bind_bad hp9)))
        have hon := over_all ((Only.refl (fun q => q = pb ∨ nv.ownBlock = some q ∨ dv.ownBlock = some q) w).alloc (.cells #[.bool false] 4)) W9.out.only hb2
        have hcell : ((w9.setCell ⟨w.heap.size, 0, none⟩ (.bool false)).alloc o).cell? ⟨w.heap.size, 0, none⟩ = some (.bool false) := by
          rw [World.cell?_alloc_past _ _ _ (by simpa using hlt9)]
          exact World.cell?_setCell_same _ _ _ ((cellOf HB9 0).trans rfl)
        simp [Leaves, settle, results, Try.results9, go_sem, hcell]
        exact ⟨_, _, s', hon, hs2, by rw [hall]; exact ⟨rfl, hq⟩⟩
      | ok x9 s9 =>
        rw [hp9] at hr9
        obtain ⟨v9, rfl, rfl, hs⟩ := hr9
        have S9 := Lib.hid hs
        have hc9 := (syn.One.statement K K).get hp9
        try simp only at hc9
        have EQ9 := Lib.hid (EQ20.out.trans (bind_congr_ ((gather_more hlt).trans (bind_ok hp9))))
        clear hs hp9
        go_upto_region 3 with (at_builtin; refine wpList_append_any rfl (.tmp 15) (.tmp 18) 31 rfl lo 3 i1 (.int .i64 0) 1 8 Try.underlying31 HJ.out.1 HJ.out.2.1 HJ.out.2.2.1 HJ.out.2.2.2 rfl (by decide) u3 (xs).length _ rfl (LC9.out.1.alloc _) ⟨w9.heap.size, 0, none⟩ 1 1 (by decide) [natV x9] rfl rfl (new_cells w9 _ _) (by simp [Value.oneCell']) (by have := HXL.out; unfold maxLen; first | omega | (simp at this ⊢; omega)) (by have := HXL.out; first | omega | (simp at this ⊢; omega)) (by have := S9.out.hlo; simp; omega) ?_; intro vv1 w1 hown1 hgr1 hwh1; obtain ⟨gq1, cp1, rfl⟩ := Joins.ownsRow_form hown1 (by omega))
        obtain ⟨hl1, hs1, hw1, hf1⟩ := push_ S9.out LC9.out FR20.out W9.out hown1 hgr1 hwh1
        have LC1 := Lib.hid hl1
        have S1 := Lib.hid hs1
        have W1 := Lib.hid hw1
        have FR1 := Lib.hid hf1
        clear hl1 hs1 hw1 hf1 hown1 hgr1 hwh1
        have hps := S1.out.pos
        have HBn := Lib.hid (H.out.keepT (t := 4) HB.out (by decide) W1.out)
        go_roundg (l.length - s9.at_)
        case measure => omega
        case rel => exact ⟨f, xs ++ [x9], s9, nv9, dv9, _, rfl, Nat.le_refl _, by omega, (fun y hy => by rcases List.mem_append.1 hy with h | h; (have := hxs y h; omega); (simp at h; omega)), by omega, by omega, by simp; omega, LC1, S1, W1, FR1, HBn, EQ9⟩
    · have hlti : ¬ (s20.at_ : Int) < (l.length : Int) := by omega
      go_wp2_with fail
      refine wp_region_grow (Only (fun _ => False)) (fun | _ => none) (by kernel_rfl) (by kernel_rfl) (Only.refl _) (fun _ _ _ => Only.trans) ?_ ?_
      · intro i V hV
        cases hV
      simp only [List.zipIdx_cons, List.zipIdx_nil, Nat.zero_add, Nat.reduceAdd]
      iterate 3 (refine grow_det ?_ rfl (fun w' => ?_) ?_; rotate_left 1; (unfold Runs; go_simp; rfl); try simp only [Act.put, List.setIfInBounds_toArray, List.set_cons_zero, List.set_cons_succ])
      refine grow_read (.int .i64 (s20.at_ : Nat)) rfl (fun w' hr hf => ?_) ?_
      · have h1 : w'.cell? ⟨pb, 1, none⟩ = some (.int .i64 (s20.at_ : Nat)) := (S20.out.grow (Only.trans (Only.refl _ wr).drew hr)).f1
        unfold Runs
        go_simp
      simp only [Act.put, List.setIfInBounds_toArray, List.set_cons_zero, List.set_cons_succ]
      iterate 3 (refine grow_det ?_ rfl (fun w' => ?_) ?_; rotate_left 1; (unfold Runs; go_simp; rfl); try simp only [Act.put, List.setIfInBounds_toArray, List.set_cons_zero, List.set_cons_succ])
      refine grow_read (.slice a l.length c) rfl (fun w' hr hf => ?_) ?_
      · have h1 : w'.cell? ⟨pb, 0, none⟩ = some (.slice a l.length c) := (S20.out.grow (Only.trans (Only.refl _ wr).drew hr)).f0
        unfold Runs
        go_simp
      simp only [Act.put, List.setIfInBounds_toArray, List.set_cons_zero, List.set_cons_succ]
      iterate 2 (refine grow_det ?_ rfl (fun w' => ?_) ?_; rotate_left 1; (unfold Runs; go_simp; rfl); try simp only [Act.put, List.setIfInBounds_toArray, List.set_cons_zero, List.set_cons_succ])
      refine grow_end (fun w8 hr hf => ?_)
      clear hf
      have O8 := Only.trans (Only.refl (fun _ => False) wr).drew hr
      clear hr
      have S21 := Lib.hid (S20.out.grow O8)
      have W21 := Lib.hid (W20.out.trans (Wr.same nv20 dv20 O8))
      have LC21 := Lib.hid (S20.out.loc LC20.out (Wr.same nv20 dv20 O8))
      have HB21 := Lib.hid (O8.keeps HB20.out (fun e => e))
      clear O8 S20 W20 LC20 HB20
      go_wp2_with fail
      have S22 := Lib.hid (S21.out.less (fun q e => Or.inl e))
      have hxl2 := HXL.out
      refine (node_calls S22.out 1 ⟨#[]⟩ u3 xs LC21.out.kids (fun y hy => by have := hxs y hy; omega) (by omega) (by omega)).mono ?_
      rintro e w9 ⟨nv9, dv9, hw9, v9, rfl, rfl, hs9⟩
      have W9 := Lib.hid (W21.out.trans hw9)
      have HB9 := H.out.keepT (t := 4) HB.out (by decide) W9.out
      have hlt9 := lt_of_heap HB9
      have hcb : w9.cell? ⟨w.heap.size, 0, none⟩ = some (.bool false) := (cellOf HB9 0).trans rfl
      have hfb : w9.frozen? ⟨w.heap.size, 0, none⟩ = false := freeOf HB9 0
      have HS9 := Lib.hid hs9
      have HH9 := Lib.hid HB9
      clear hs9 hw9 HB9 S22 hxl2
      go_wp2_with fail
      refine leaves_cons (f := 12) (args := #[.pointer (some ⟨w.heap.size, 0, none⟩)]) (by simp) (by simp [go_sem]) ?_
      refine (catch_idle ⟨w.heap.size, 0, none⟩ _).mono ?_
      rintro e u' w'' ⟨rfl, rfl, rfl⟩
      have hb2 := (Only.refl (fun q => q = w.heap.size) w9).setCell (p := ⟨w.heap.size, 0, none⟩) rfl (.bool true)
      have hs2 := HS9.out.flip HH9.out hlo0 hb2
      have hall : syn.all K K l s = _ := EQ20.out.trans (bind_ok (gather_done (K := K) (f := f) (xs := xs) hge))
      have hon := over_all ((Only.refl (fun q => q = pb ∨ nv.ownBlock = some q ∨ dv.ownBlock = some q) w).alloc (.cells #[.bool false] 4)) W9.out.only hb2
      have hcell : (w9.setCell ⟨w.heap.size, 0, none⟩ (.bool true)).cell? ⟨w.heap.size, 0, none⟩ = some (.bool true) := World.cell?_setCell_same _ _ _ hcb
      simp [Leaves, settle, results, Try.results9, go_sem, hcell]
      exact ⟨_, _, _, hon, hs2, by rw [hall]; exact ⟨rfl, rfl⟩⟩
end
end Go.Proofs.Ytoggcdldoinbnaa
