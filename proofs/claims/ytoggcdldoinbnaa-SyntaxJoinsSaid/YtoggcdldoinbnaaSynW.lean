/- Rows put behind rows. -/
import Derived.Test.YtoggcdldoinbnaaSynD
namespace Go.Proofs.Ytoggcdldoinbnaa
open Go.RowKit
open syn (Tok Nd PS)
set_option linter.unusedVariables false
set_option linter.unusedSimpArgs false

theorem wpList_append_more {P : Program} {w : World} {ops : Array Oper} {rest : List Oper} {o : Oper} {a : Act} {Q : Exit → Act → World → Prop} (hgd : o.guard = none) (s x : Operand) (t : TypeId)
    (ho : o.op = .call { callee := .builtin .append, args := #[s, x], argTypes := #[t, t] })
    (base : Nat) (e : TypeId) (i : TypeInfo) (z : Value) (size bytes : Nat) (ht : P.underlying t = some (.slice e)) (hi : P.info? e = some i) (hz : i.zero = some z)
    (hsize : i.size = size) (hby : i.bytes = bytes) (hzs : z.cells.size = size) (hsz : 0 < size)
    (v : Value) (n : Nat) (xs : List Value) (hs : a.eval s = v) (hown : w.ownsRow base e size v n xs)
    (ad : Addr) (m c : Nat) (hm : 0 < n) (news : List Value) (hx : a.eval x = .slice (some ad) m c) (hl : news.length = m * size) (hnews : ∀ j u, news[j]? = some u → w.cell? (ad.add j) = some u) (h1 : ∀ u ∈ news, u.oneCell' = true)
    (h63 : n + m ≤ maxLen) (hbytes : (n + m) * bytes ≤ 140737488355328) (hbase : base ≤ w.heap.size)
    (h : ∀ v' w', w'.ownsRow base e size v' (n + m) (xs ++ news) → w.grownBy w' v.ownBlock → (∀ g', v'.ownBlock = some g' → v.ownBlock = some g' ∨ w.heap.size ≤ g') → wpList P ops Q rest (a.put o.dst v') w') : wpList P ops Q (o :: rest) a w := by
  refine wpList_plain hgd fun K hK => ?_
  obtain ⟨v', w', hr, h2, h3, h4⟩ := run_append_own (P := P) w base t o.type e i z size bytes ht hi hz hsize hby hzs hsz _ n xs hown ad m c news hl hnews h1 h63 hbytes hbase
  have h5 : ∀ g', v'.ownBlock = some g' → v.ownBlock = some g' ∨ w.heap.size ≤ g' := by
    have hm63 : n + m ≤ 9223372036854775807 := by simp only [maxLen] at h63; omega
    rcases hown.2 with ⟨rfl, rfl⟩ | ⟨g1, cap1, cur, rfl, hb, hg, hnc, hcm, hcs, htk⟩
    · exact absurd hm (by omega)
    · subst hsize
      by_cases hroom : n + m ≤ cap1
      · have hfit : n * i.size + news.length ≤ cur.size := by rw [hl, hcs, ← Nat.add_mul]; exact Nat.mul_le_mul_right _ hroom
        have hr2 := run_append_room (P := P) w t o.type e i ht hi g1 n cap1 cur hg ad m c news hl hnews h1 hroom hfit
        rw [hr2] at hr
        cases hr
        intro g' hg'
        exact .inl (by simpa [Value.ownBlock] using hg')
      · have hr2 := run_append_grow (P := P) w t o.type e i z ht hi hz ⟨g1, 0, none⟩ n cap1 xs hown.1 (hown.cells (g := g1) rfl) ad m c news hl hnews (by omega) (by omega) (growslice_fits (by omega) (by rw [hby]; exact hbytes))
        rw [hr2] at hr
        cases hr
        intro g' hg'
        exact .inr (Nat.le_of_eq (by simpa [Value.ownBlock] using hg'))
  unfold Oper.wp execOp
  simp only [ho, resolve, invoke, builtin, Sem.run_bind, Sem.run_pure, Result.andThen_ok, List.map_toArray, List.map_cons, List.map_nil, hs, hx, hr]
  exact hK _ _ (h v' w' h2 h3 h5)

/-- append of a whole slice of one's own to another one. -/
theorem run_append_nothing {P : Program} (w : World) (t ty e : TypeId) (i : TypeInfo) (ht : P.underlying t = some (.slice e)) (hi : P.info? e = some i) (g n cap : Nat) (hc : n ≤ cap) :
    (Builtin.append_ #[t, t] ty #[.slice (some ⟨g, 0, none⟩) n cap, .slice none 0 0]).run P w = .ok (.slice (some ⟨g, 0, none⟩) n cap) w := by
  simp [Builtin.append_, run_underlying ht, sizeOf, typeInfo, hi, Builtin.lenOf, hc, run_firstCells_none, storeCells]
theorem wpList_append_row {P : Program} {w : World} {ops : Array Oper} {rest : List Oper} {o : Oper} {a : Act} {Q : Exit → Act → World → Prop} (hgd : o.guard = none) (s x : Operand) (t : TypeId)
    (ho : o.op = .call { callee := .builtin .append, args := #[s, x], argTypes := #[t, t] })
    (base : Nat) (e : TypeId) (i : TypeInfo) (z : Value) (size bytes : Nat) (ht : P.underlying t = some (.slice e)) (hi : P.info? e = some i) (hz : i.zero = some z)
    (hsize : i.size = size) (hby : i.bytes = bytes) (hzs : z.cells.size = size) (hsz : 0 < size)
    (v : Value) (n : Nat) (xs : List Value) (hs : a.eval s = v) (hown : w.ownsRow base e size v n xs)
    (u : Value) (m : Nat) (hm : 0 < n) (ys : List Value) (hx : a.eval x = u) (hrow : w.ownsRow base e size u m ys) (h1 : ∀ u ∈ ys, u.oneCell' = true)
    (h63 : n + m ≤ maxLen) (hbytes : (n + m) * bytes ≤ 140737488355328) (hbase : base ≤ w.heap.size)
    (h : ∀ v' w', w'.ownsRow base e size v' (n + m) (xs ++ ys) → w.grownBy w' v.ownBlock → (∀ g', v'.ownBlock = some g' → v.ownBlock = some g' ∨ w.heap.size ≤ g') → wpList P ops Q rest (a.put o.dst v') w') : wpList P ops Q (o :: rest) a w := by
  rcases hrow.2 with ⟨rfl, rfl⟩ | ⟨g2, cap2, cur2, rfl, hb, hg, hnc, hcm, hcs, htk⟩
  · have hy : ys = [] := List.length_eq_zero_iff.1 (by rw [hrow.1]; simp)
    subst hy
    refine wpList_plain hgd fun K hK => ?_
    rcases hown.2 with ⟨rfl, rfl⟩ | ⟨g1, cap1, cur, rfl, hb, hg, hnc, hcm, hcs, htk⟩
    · omega
    · have hr := run_append_nothing (P := P) w t o.type e i ht hi g1 n cap1 hnc
      unfold Oper.wp execOp
      simp only [ho, resolve, invoke, builtin, Sem.run_bind, Sem.run_pure, Result.andThen_ok, List.map_toArray, List.map_cons, List.map_nil, hs, hx, hr]
      exact hK _ _ (h _ _ (by simpa using hown) (World.grownBy.refl w _) (fun g' e => .inl e))
  · exact wpList_append_more hgd s x t ho base e i z size bytes ht hi hz hsize hby hzs hsz v n xs hs hown ⟨g2, 0, none⟩ m cap2 hm ys hx hrow.1 (hrow.cells (g := g2) rfl) h1 h63 hbytes hbase h


section
variable {F : Nat → Prop} {lo : Nat} {w0 : World} {a : Option Addr} {l : List Tok} {c pb : Nat} {w w' : World} {nv dv nv' dv' : Value} {s : PS}
/-- A row of nodes is put behind a slice of the call's own. -/
theorem pushl_ {we w2 : World} {nv0 dv0 v v2 : Value} {xs ys : List Nat} (h : St (fun q => F q ∨ v.ownBlock = some q) lo w0 a l c pb w nv dv s) (hl : Loc F lo w dv v xs) (hv : ∀ q, v.ownBlock = some q → we.heap.size ≤ q) (hW : Wr pb nv0 dv0 we w nv dv)
    (hown : w2.ownsRow lo 3 1 v2 (xs.length + ys.length) (xs.map natV ++ ys.map natV)) (hgr : w.grownBy w2 v.ownBlock) (hwh : ∀ g', v2.ownBlock = some g' → v.ownBlock = some g' ∨ w.heap.size ≤ g') :
    Loc F lo w2 dv v2 (xs ++ ys) ∧ St (fun q => F q ∨ v2.ownBlock = some q) lo w0 a l c pb w2 nv dv s ∧ Wr pb nv0 dv0 we w2 nv dv ∧ ∀ q, v2.ownBlock = some q → we.heap.size ≤ q := by
  have o : Only (fun q => v.ownBlock = some q) w w2 := (Only.refl (fun q => v.ownBlock = some q) w).grown hgr (fun q e => .inl e)
  obtain ⟨kv, h1, h2, h3⟩ := h.nodes
  have hwe := hW.only.size
  have hdl := h.depth.lt
  have hvk : ∀ q, v.ownBlock = some q → ∃ c2 z2, w.heap[q]? = some (.cells c2 3 z2) := fun q e => Lib.ownsRow_kind hl.1 q e
  have hpb : v.ownBlock ≠ some pb := fun e => by
    obtain ⟨c2, z2, h4⟩ := hvk pb e
    exact absurd (two_ty h.cells h4) (by decide)
  have hnv : ∀ q, nv.ownBlock = some q → v.ownBlock ≠ some q := fun q e e2 => by
    obtain ⟨c2, z2, h4⟩ := hvk q e2
    obtain ⟨c5, z5, h5⟩ := Lib.ownsRow_kind h2 q e
    exact absurd (two_ty h4 h5) (by decide)
  refine ⟨⟨by simpa using hown, fun q e => ?_⟩, ⟨o.below h.below h.hlo (fun i e => (hl.1.lt i e).1), Nat.le_trans h.hlo o.size, h.hpb, h.words, h.few, o.keeps h.cells hpb, h.pos, ⟨kv, h1, own_keep h2 o hnv, fun i nd u h4 h5 => ?_⟩, own_keep h.depth o (fun q e e2 => (hl.2 q e2).1 e), h.same, h.small, h.deep, fun q e => ?_⟩, ?_, fun q e => ?_⟩
  · rcases hwh q e with h4 | h4
    · exact hl.2 q h4
    · exact ⟨fun e2 => by have := (hdl q e2).2; omega, fun e2 => by have := h.fin q (.inl e2); omega⟩
  · rcases h3 i nd u h4 h5 with h6 | ⟨g, cc, cur, e, h7, h8, h9, h10, h11⟩
    · exact .inl h6
    · refine .inr ⟨g, cc, cur, e, h7, o.keeps h8 (fun e2 => h11 (.inr e2)), h9, h10, fun e2 => ?_⟩
      rcases e2 with e2 | e2
      · exact h11 (.inl e2)
      · rcases hwh g e2 with h12 | h12
        · exact h11 (.inr h12)
        · have := lt_of_heap h8; omega
  · rcases e with e | e
    · exact Nat.lt_of_lt_of_le (h.fin q (.inl e)) o.size
    · exact (hown.lt q e).2
  · refine ⟨⟨o.os.trans hW.only.os, o.tape.trans hW.only.tape, o.output.trans hW.only.output, Nat.le_trans hW.only.size o.size, fun i hi hs => (o.block i (by omega) (fun e => by have := hv i e; omega)).trans (hW.only.block i hi hs)⟩, hW.hn, hW.hd⟩
  · rcases hwh q e with h4 | h4
    · exact hv q h4
    · omega
end
end Go.Proofs.Ytoggcdldoinbnaa
