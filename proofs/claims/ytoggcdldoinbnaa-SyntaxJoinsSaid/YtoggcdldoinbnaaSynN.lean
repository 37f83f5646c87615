/- The parser's node: one more node, and its depth. -/
import Derived.Test.YtoggcdldoinbnaaSynC
import Derived.Lib.SmallJoins
namespace Go.Proofs.Ytoggcdldoinbnaa
open Go.RowKit
open syn (Tok Nd PS)
set_option linter.unusedVariables false

/-- append to a slice of one's own: it stays where it was, or lies in a new block. -/
theorem wpList_append_any {P : Program} {w : World} {ops : Array Oper} {rest : List Oper} {o : Oper} {a : Act} {Q : Exit → Act → World → Prop} (hgd : o.guard = none) (s x : Operand) (t : TypeId)
    (ho : o.op = .call { callee := .builtin .append, args := #[s, x], argTypes := #[t, t] })
    (base : Nat) (e : TypeId) (i : TypeInfo) (z : Value) (size bytes : Nat) (ht : P.underlying t = some (.slice e)) (hi : P.info? e = some i) (hz : i.zero = some z)
    (hsize : i.size = size) (hby : i.bytes = bytes) (hzs : z.cells.size = size) (hsz : 0 < size)
    (v : Value) (n : Nat) (xs : List Value) (hs : a.eval s = v) (hown : w.ownsRow base e size v n xs)
    (ad : Addr) (m c : Nat) (hm : 0 < m) (news : List Value) (hx : a.eval x = .slice (some ad) m c) (hl : news.length = m * size) (hnews : ∀ j u, news[j]? = some u → w.cell? (ad.add j) = some u) (h1 : ∀ u ∈ news, u.oneCell' = true)
    (h63 : n + m ≤ maxLen) (hbytes : (n + m) * bytes ≤ 140737488355328) (hbase : base ≤ w.heap.size)
    (h : ∀ v' w', w'.ownsRow base e size v' (n + m) (xs ++ news) → w.grownBy w' v.ownBlock → (∀ g', v'.ownBlock = some g' → v.ownBlock = some g' ∨ w.heap.size ≤ g') → wpList P ops Q rest (a.put o.dst v') w') : wpList P ops Q (o :: rest) a w := by
  refine wpList_plain hgd fun K hK => ?_
  obtain ⟨v', w', hr, h2, h3, h4⟩ := run_append_own (P := P) w base t o.type e i z size bytes ht hi hz hsize hby hzs hsz _ n xs hown ad m c news hl hnews h1 h63 hbytes hbase
  have h5 : ∀ g', v'.ownBlock = some g' → v.ownBlock = some g' ∨ w.heap.size ≤ g' := by
    have hm63 : n + m ≤ 9223372036854775807 := by simp only [maxLen] at h63; omega
    rcases hown.2 with ⟨rfl, rfl⟩ | ⟨g1, cap1, cur, rfl, hb, hg, hnc, hcm, hcs, htk⟩
    · subst hsize
      have hr2 := run_append_nil (P := P) w t o.type e i z ht hi hz ad m c news hl hnews (by omega) (by omega) (by have hb := hbytes; simp only [Nat.zero_add] at hb; rw [hby]; omega)
      rw [hr2] at hr
      cases hr
      intro g' hg'
      exact .inr (Nat.le_of_eq (by simpa [Value.ownBlock] using hg'))
    · subst hsize
      by_cases hroom : n + m ≤ cap1
      · have hfit : n * i.size + news.length ≤ cur.size := by rw [hl, hcs, ← Nat.add_mul]; exact Nat.mul_le_mul_right _ hroom
        have hr2 := run_append_room (P := P) w t o.type e i ht hi g1 n cap1 cur hg ad m c news hl hnews h1 hroom hfit
        rw [hr2] at hr
        cases hr
        intro g' hg'
        exact .inl (by simpa [Value.ownBlock] using hg')
      · have hr2 := run_append_grow (P := P) w t o.type e i z ht hi hz ⟨g1, 0, none⟩ n cap1 xs hown.1 (hown.cells (g := g1) rfl) ad m c news hl hnews (by omega) (by omega) (growslice_fits (by omega) (by rw [hby]; exact hbytes))
        rw [hr2] at hr
        cases hr
        intro g' hg'
        exact .inr (Nat.le_of_eq (by simpa [Value.ownBlock] using hg'))
  unfold Oper.wp execOp
  simp only [ho, resolve, invoke, builtin, Sem.run_bind, Sem.run_pure, Result.andThen_ok, List.map_toArray, List.map_cons, List.map_nil, hs, hx, hr]
  exact hK _ _ (h v' w' h2 h3 h5)

theorem add_zero_block (g j : Nat) : (⟨g, 0, none⟩ : Addr).add j = ⟨g, j, none⟩ := by unfold Addr.add; split <;> simp_all
theorem tree_info : ∃ i, Try.prog.info? 33 = some i ∧ i.zero = some (.agg #[.int .i64 0, .string ⟨#[]⟩, .slice none 0 0]) ∧ i.size = 3 ∧ i.bytes = 48 := by
  have h : (Try.prog.info? 33).map (fun i => (i.zero, i.size, i.bytes)) = some (some (.agg #[.int .i64 0, .string ⟨#[]⟩, .slice none 0 0]), 3, 48) := by kernel_rfl
  cases hq : Try.prog.info? 33 with
  | none => rw [hq] at h; cases h
  | some i =>
    rw [hq] at h
    simp at h
    exact ⟨i, rfl, h.1, h.2.1, h.2.2⟩
theorem int_info : ∃ i, Try.prog.info? 3 = some i ∧ i.zero = some (.int .i64 0) ∧ i.size = 1 ∧ i.bytes = 8 := by
  have h : (Try.prog.info? 3).map (fun i => (i.zero, i.size, i.bytes)) = some (some (.int .i64 0), 1, 8) := by kernel_rfl
  cases hq : Try.prog.info? 3 with
  | none => rw [hq] at h; cases h
  | some i =>
    rw [hq] at h
    simp at h
    exact ⟨i, rfl, h.1, h.2.1, h.2.2⟩
theorem KidsOk.shape {F : Nat → Prop} {lo : Nat} {w : World} {dv v : Value} {kids : List Nat} (h : KidsOk F lo w dv v kids) : ∃ x cc, v = .slice x kids.length cc ∧ ∀ (i k : Nat), kids[i]? = some k → ∃ g, x = some ⟨g, 0, none⟩ ∧ w.cell? ⟨g, i, none⟩ = some (natV k) := by
  rcases h with ⟨rfl, x, cc, rfl⟩ | ⟨g, cc, cur, rfl, _, hg, hi, _, _⟩
  · exact ⟨x, cc, rfl, fun i k e => by simp at e⟩
  · exact ⟨_, cc, rfl, fun i k e => ⟨g, rfl, (cellOf hg i).trans (hi i k e)⟩⟩
theorem depth_le (d : List Nat) (hd : ∀ x ∈ d, x ≤ d.length) : ∀ (kids : List Nat) (m : Nat), m ≤ d.length + 1 → kids.foldl (fun m k => max m (d.getD k 0 + 1)) m ≤ d.length + 1
  | [], m, h => h
  | k :: kids, m, h => by
    rw [List.foldl_cons]
    refine depth_le d hd kids _ ?_
    have : d.getD k 0 ≤ d.length := by
      rw [List.getD_eq_getElem?_getD]
      cases e : d[k]? with
      | none => simp
      | some x => exact hd x (List.mem_iff_getElem?.2 ⟨k, e⟩)
    omega
section
variable {F : Nat → Prop} {lo : Nat} {w0 : World} {a : Option Addr} {l : List Tok} {c pb : Nat} {w w' : World} {nv dv : Value} {s : PS}
theorem St.depth_cell (h : St F lo w0 a l c pb w nv dv s) (k : Nat) (hk : k < s.d.length) : ∃ g cap, dv = .slice (some ⟨g, 0, none⟩) s.d.length cap ∧ w.cell? ⟨g, k, none⟩ = some (natV (s.d.getD k 0)) := by
  rcases h.depth.2 with ⟨_, e⟩ | ⟨g, cap, cur, rfl, hb, hg, _⟩
  · omega
  · refine ⟨g, cap, rfl, ?_⟩
    have := h.depth.cells (g := g) rfl k (natV (s.d.getD k 0)) (by rw [List.getElem?_map, List.getD_eq_getElem?_getD, List.getElem?_eq_getElem hk]; rfl)
    rw [add_zero_block] at this
    exact this
theorem new_cells (w : World) (xs : List Value) (t : TypeId) : ∀ (j : Nat) u, xs[j]? = some u → (w.alloc (.cells xs.toArray t)).cell? ((⟨w.heap.size, 0, none⟩ : Addr).add j) = some u := by
  intro j u hj
  rw [add_zero_block, cellOf (heap_alloc_new w _)]
  simpa using hj
theorem St.appended (h : St F lo w0 a l c pb w nv dv s) {o : Obj} {w2 : World} (hg : (w.alloc o).grownBy w2 nv.ownBlock) : w2.heap[pb]? = some (.cells #[.slice a l.length c, .int .i64 (s.at_ : Nat), nv, dv] 40 (0, 0)) ∧ w2.cell? ⟨pb, 2, none⟩ = some nv ∧ w2.cell? ⟨pb, 3, none⟩ = some dv ∧ w2.frozen? ⟨pb, 2, none⟩ = false := by
  have hp := lt_of_heap h.cells
  have hc : w2.heap[pb]? = some (.cells #[.slice a l.length c, .int .i64 (s.at_ : Nat), nv, dv] 40 (0, 0)) := by
    rw [hg.block pb (by simp; omega) (fun e => ?_), heap_alloc_old _ _ hp]
    · exact h.cells
    · obtain ⟨kv, _, h1, _⟩ := h.nodes
      obtain ⟨c2, z2, h2⟩ := Lib.ownsRow_kind h1 pb e.symm
      exact absurd (two_ty h.cells h2) (by decide)
  exact ⟨hc, (cellOf hc 2).trans rfl, (cellOf hc 3).trans rfl, freeOf hc 2⟩
theorem own_keep {lo size n : Nat} {t : TypeId} {v : Value} {xs : List Value} {w w' : World} {S : Nat → Prop} (h : w.ownsRow lo t size v n xs) (k : Only S w w') (hS : ∀ q, v.ownBlock = some q → ¬ S q) : w'.ownsRow lo t size v n xs := by
  refine ⟨h.1, ?_⟩
  rcases h.2 with h3 | ⟨g, cap, cur, rfl, hb, hg, rest⟩
  · exact .inl h3
  · exact .inr ⟨g, cap, cur, rfl, hb, k.keeps hg (hS g rfl), rest⟩
theorem St.depth_after (h : St F lo w0 a l c pb w nv dv s) {o : Obj} {w2 : World} {v2 : Value} (hg : (w.alloc o).grownBy w2 nv.ownBlock) : (w2.setCell ⟨pb, 2, none⟩ v2).ownsRow lo 3 1 dv s.d.length (s.d.map natV) := by
  obtain ⟨kv, _, h1, _⟩ := h.nodes
  refine own_keep (own_keep h.depth (((Only.refl (fun q => nv.ownBlock = some q) w).alloc o).grown hg (fun q e => .inl e)) (fun q hq e => ?_)) ((Only.refl (· = pb) w2).put 2 v2) (fun q hq e => ?_)
  · obtain ⟨c4, z4, h4⟩ := Lib.ownsRow_kind h.depth q hq
    obtain ⟨c7, z7, h7⟩ := Lib.ownsRow_kind h1 q e
    exact absurd (two_ty h4 h7) (by decide)
  · subst e
    obtain ⟨c4, z4, h4⟩ := Lib.ownsRow_kind h.depth q hq
    exact absurd (two_ty h.cells h4) (by decide)
theorem later_ {pb : Nat} {x y v2 dv : Value} {w3 w5 : World} {o : Obj} {lo n : Nat} {xs : List Value} (h : w3.heap[pb]? = some (.cells #[x, y, v2, dv] 40 (0, 0))) (hg : (w3.alloc o).grownBy w5 dv.ownBlock) (hd : w3.ownsRow lo 3 1 dv n xs) : w5.heap[pb]? = some (.cells #[x, y, v2, dv] 40 (0, 0)) ∧ w5.cell? ⟨pb, 3, none⟩ = some dv ∧ w5.frozen? ⟨pb, 3, none⟩ = false := by
  have hp := lt_of_heap h
  have hc : w5.heap[pb]? = some (.cells #[x, y, v2, dv] 40 (0, 0)) := by
    rw [hg.block pb (by simp; omega) (fun e => ?_), heap_alloc_old _ _ hp]
    · exact h
    · obtain ⟨c2, z2, h2⟩ := Lib.ownsRow_kind hd pb e.symm
      exact absurd (two_ty h h2) (by decide)
  exact ⟨hc, (cellOf hc 3).trans rfl, freeOf hc 3⟩
set_option maxRecDepth 20000 in
set_option maxHeartbeats 2000000 in
theorem node_calls (h : St F lo w0 a l c pb w nv dv s) (kind : Int) (text : ByteArray) (kv : Value) (kids : List Nat) (hk : KidsOk F lo w dv kv kids) (hlt : ∀ k ∈ kids, k < s.n.length) (hsm : s.n.length ≤ 2 * s.at_) (hkl : kids.length ≤ 100000) :
    Calls Try.prog 14 #[ptr pb, .int .i64 kind, .string text, kv] w fun e w' => Post F lo w0 a l c pb eN (syn.node kind text kids l s) nv dv w e w' := by
  obtain ⟨x, cc, rfl, hkc⟩ := hk.shape
  have H := Lib.hid h
  have HK := Lib.hid hk
  have HC := Lib.hid hkc
  have HLT := Lib.hid hlt
  obtain ⟨i0, hi0⟩ := tree_info
  obtain ⟨i1, hi1⟩ := int_info
  have HI := Lib.hid hi0
  have HJ := Lib.hid hi1
  have hfew := h.few
  have hpos := h.pos
  have hdl : s.d.length = s.n.length := h.same
  clear h hk hkc hi0 hi1 hlt
  go_enter Try.func14, Try.ntmps14
  go_wp2_with fail
  go_loopw [9, 14] (fun d i wr => ∃ j : Nat, i = .int .i64 j ∧ j ≤ kids.length ∧ wr = w ∧ d = natV ((kids.take j).foldl (fun m k => max m (s.d.getD k 0 + 1)) 1)) (fun _ i _ => kids.length - (intOf i).toNat)
  case atStart => exact ⟨0, rfl, Nat.zero_le _, rfl, rfl⟩
  case round =>
    obtain ⟨j, rfl, hj, rfl, rfl⟩ := hrel
    by_cases hjl : j < kids.length
    · have hji : (j : Int) < (kids.length : Int) := by omega
      obtain ⟨k, hk⟩ : ∃ k, kids[j]? = some k := ⟨_, List.getElem?_eq_getElem hjl⟩
      obtain ⟨g, rfl, hc⟩ := HC.out j k hk
      have hkn := HLT.out k (List.mem_iff_getElem?.2 ⟨j, hk⟩)
      obtain ⟨dg, dcap, rfl, hdc⟩ := H.out.depth_cell k (by omega)
      have f3 := H.out.f3
      obtain ⟨x, hx⟩ : ∃ x, x = s.d.getD k 0 := ⟨_, rfl⟩
      obtain ⟨dj, hdj⟩ : ∃ y, y = (kids.take j).foldl (fun m k => max m (s.d.getD k 0 + 1)) 1 := ⟨_, rfl⟩
      have hxl : x ≤ s.d.length := by
        rw [hx, List.getD_eq_getElem?_getD, List.getElem?_eq_getElem (by omega)]
        exact H.out.deep _ (List.getElem_mem _)
      have hnext : (kids.take (j + 1)).foldl (fun m k => max m (s.d.getD k 0 + 1)) 1 = max dj (x + 1) := by
        rw [List.take_add_one, hk, List.foldl_append, ← hdj, hx]
        rfl
      have HN := Lib.hid hnext
      have hki : (k : Int) < (s.d.length : Int) := by omega
      rw [← hx] at hdc
      rw [← hdj]
      have hww : IntKind.i64.wrap ((x : Int) + 1) = ((x + 1 : Nat) : Int) := by have := H.out.small; rw [IntWalk.i64_in _ (by omega)]; omega
      clear hk hx hdj hnext
      unfold natV at hc hdc ⊢
      go_wp2_with fail
      go_roundw
      case rel => exact ⟨j + 1, by go_num, by omega, by first | rfl | trivial, by rw [HN.out]; congr 1; omega⟩
      case measure => simp [intOf]; omega
    · obtain rfl : j = kids.length := by omega
      have HDL := Lib.hid hdl
      have hdl2 : s.d.length + 1 ≤ 9000 := by omega
      have HDM := Lib.hid hdl2
      clear hdl hdl2
      have hji : ¬ (kids.length : Int) < (kids.length : Int) := by omega
      obtain ⟨dd, hdd⟩ : ∃ y, y = syn.depthOf s.d kids := ⟨_, rfl⟩
      have hd1 : (kids.take kids.length).foldl (fun m k => max m (s.d.getD k 0 + 1)) 1 = dd := by rw [List.take_length, hdd]; rfl
      rw [hd1]
      have hdl2 : dd ≤ s.d.length + 1 := by rw [hdd]; exact depth_le s.d H.out.deep kids 1 (by omega)
      have HD := Lib.hid hdd
      clear hd1 hdd
      obtain ⟨vs, hvl, hno, hki⟩ := H.out.nodes
      have HV := Lib.hid hvl
      have HNO := Lib.hid hno
      have HKI := Lib.hid hki
      have HLO := Lib.hid H.out.hlo
      have HW0 := Lib.hid ((Only.refl (fun _ => False) wr).alloc (.cells #[.int .i64 kind, .string text, .slice x kids.length cc] 33))
      have f2 := H.out.f2
      have HB1 : Hid (s.n.length + 1 ≤ 9000) := Lib.hid (by omega)
      clear hvl hno hki
      unfold natV
      go_upto_region 8 with (at_builtin; refine wpList_append_any rfl (.tmp 33) (.tmp 38) 23 rfl lo 33 i0 (.agg #[.int .i64 0, .string ⟨#[]⟩, .slice none 0 0]) 3 48 Try.underlying23 HI.out.1 HI.out.2.1 HI.out.2.2.1 HI.out.2.2.2 rfl (by decide) nv s.n.length _ rfl (HNO.out.alloc _) ⟨wr.heap.size, 0, none⟩ 1 1 (by decide) [.int .i64 kind, .string text, .slice x kids.length cc] rfl rfl (new_cells wr _ _) (by simp [Value.oneCell']) (by have := HB1.out; unfold maxLen; omega) (by have := HB1.out; omega) (by have := HLO.out; simp; omega) ?_; intro v2 w2 hown2 hgr2 hwh2; obtain ⟨g2, cap2, rfl⟩ := Joins.ownsRow_form hown2 (by omega); obtain ⟨c2, n2, n3, fr2⟩ := H.out.appended hgr2)
      have c3 := heap_setCell_same w2 pb 2 _ _ (.slice (some ⟨g2, 0, none⟩) (s.n.length + 1) cap2) c2
      have hD3 := H.out.depth_after hgr2 (v2 := .slice (some ⟨g2, 0, none⟩) (s.n.length + 1) cap2)
      have hN3 := own_keep hown2 ((Only.refl (· = pb) w2).put 2 (.slice (some ⟨g2, 0, none⟩) (s.n.length + 1) cap2)) (fun q hq e => by
        subst e
        obtain ⟨c4, z4, h4⟩ := Lib.ownsRow_kind hown2 q hq
        exact absurd (two_ty c2 h4) (by decide))
      have ho3 : Only (fun q => q = pb ∨ nv.ownBlock = some q ∨ dv.ownBlock = some q) wr (w2.setCell ⟨pb, 2, none⟩ (.slice (some ⟨g2, 0, none⟩) (s.n.length + 1) cap2)) :=
        ((HW0.out.mono (fun _ _ e => e.elim)).grown hgr2 (fun q e => .inl (.inr (.inl e)))).trans (((Only.refl (· = pb) w2).put 2 _).mono (fun _ _ e => .inl e))
      have hwn : ∀ q, (Value.slice (some ⟨g2, 0, none⟩) (s.n.length + 1) cap2).ownBlock = some q → nv.ownBlock = some q ∨ wr.heap.size ≤ q := fun q e => by
        rcases hwh2 q e with h | h
        · exact .inl h
        · simp at h; exact .inr (by omega)
      have C3 := Lib.hid c3
      have D3 := Lib.hid hD3
      have N3 := Lib.hid hN3
      have O3 := Lib.hid ho3
      have WN := Lib.hid hwn
      have L3 := Lib.hid (Nat.le_trans HLO.out ho3.size)
      clear c2 n2 n3 fr2 hown2 hgr2 hwh2 c3 hD3 hN3 ho3 hwn f2
      generalize w2.setCell ⟨pb, 2, none⟩ (.slice (some ⟨g2, 0, none⟩) (s.n.length + 1) cap2) = w3 at *
      have hws : IntKind.i64.wrap (((s.n.length + 1 : Nat) : Int) - 1) = (s.n.length : Int) := by have := HB1.out; rw [IntWalk.i64_in _ (by omega)]; omega
      have hws2 : IntKind.i64.wrap (s.n.length : Int) = (s.n.length : Int) := by have := HB1.out; exact IntWalk.i64_in _ (by omega)
      have f3 : w3.cell? ⟨pb, 3, none⟩ = some dv := (cellOf C3.out 3).trans rfl
      go_upto_region 9 with (at_builtin; refine wpList_append_any rfl (.tmp 46) (.tmp 48) 31 rfl lo 3 i1 (.int .i64 0) 1 8 Try.underlying31 HJ.out.1 HJ.out.2.1 HJ.out.2.2.1 HJ.out.2.2.2 rfl (by decide) dv s.d.length _ rfl (D3.out.alloc _) ⟨w3.heap.size, 0, none⟩ 1 1 (by decide) [.int .i64 (dd : Int)] rfl rfl (new_cells w3 _ _) (by simp [Value.oneCell']) (by have := HDM.out; unfold maxLen; omega) (by have := HDM.out; omega) (by have := L3.out; simp; omega) ?_; intro v5 w5 hown5 hgr5 hwh5; obtain ⟨g5, cap5, rfl⟩ := Joins.ownsRow_form hown5 (by omega); obtain ⟨c5, n5, fr5⟩ := later_ C3.out hgr5 (D3.out))
      have c6 := heap_setCell_same w5 pb 3 _ _ (.slice (some ⟨g5, 0, none⟩) (s.d.length + 1) cap5) c5
      have hN6 := own_keep (own_keep N3.out (((Only.refl (fun q => dv.ownBlock = some q) w3).alloc (.cells #[.int .i64 (dd : Int)] 3)).grown hgr5 (fun q e => .inl e)) (fun q hq e => by
        obtain ⟨c4, z4, h4⟩ := Lib.ownsRow_kind N3.out q hq
        obtain ⟨c7, z7, h7⟩ := Lib.ownsRow_kind D3.out q e
        exact absurd (two_ty h4 h7) (by decide))) ((Only.refl (· = pb) w5).put 3 (.slice (some ⟨g5, 0, none⟩) (s.d.length + 1) cap5)) (fun q hq e => by
        subst e
        obtain ⟨c4, z4, h4⟩ := Lib.ownsRow_kind N3.out q hq
        exact absurd (two_ty C3.out h4) (by decide))
      have hD6 := own_keep hown5 ((Only.refl (· = pb) w5).put 3 (.slice (some ⟨g5, 0, none⟩) (s.d.length + 1) cap5)) (fun q hq e => by
        subst e
        obtain ⟨c4, z4, h4⟩ := Lib.ownsRow_kind hown5 q hq
        exact absurd (two_ty c5 h4) (by decide))
      have ho6 : Only (fun q => q = pb ∨ nv.ownBlock = some q ∨ dv.ownBlock = some q) wr (w5.setCell ⟨pb, 3, none⟩ (.slice (some ⟨g5, 0, none⟩) (s.d.length + 1) cap5)) :=
        ((O3.out.alloc (.cells #[.int .i64 (dd : Int)] 3)).grown hgr5 (fun q e => .inl (.inr (.inr e)))).trans (((Only.refl (· = pb) w5).put 3 _).mono (fun _ _ e => .inl e))
      have hW6 : Wr pb nv dv wr (w5.setCell ⟨pb, 3, none⟩ (.slice (some ⟨g5, 0, none⟩) (s.d.length + 1) cap5)) (.slice (some ⟨g2, 0, none⟩) (s.n.length + 1) cap2) (.slice (some ⟨g5, 0, none⟩) (s.d.length + 1) cap5) := ⟨ho6, WN.out, fun q e => by
        rcases hwh5 q e with h | h
        · exact .inl h
        · have := O3.out.size; simp at h; exact .inr (by omega)⟩
      have hst : St F lo w0 a l c pb (w5.setCell ⟨pb, 3, none⟩ (.slice (some ⟨g5, 0, none⟩) (s.d.length + 1) cap5)) (.slice (some ⟨g2, 0, none⟩) (s.n.length + 1) cap2) (.slice (some ⟨g5, 0, none⟩) (s.d.length + 1) cap5) { s with n := s.n ++ [⟨kind, text, kids⟩], d := s.d ++ [syn.depthOf s.d kids] } := by
        refine ⟨ho6.below H.out.below H.out.hlo (fun i e => ?_), Nat.le_trans H.out.hlo ho6.size, H.out.hpb, H.out.words, H.out.few, c6, H.out.pos, ⟨vs ++ [.slice x kids.length cc], by simp [HV.out], ?_, fun i nd v h1 h2 => ?_⟩, ?_, by simp [H.out.same], ?_, ?_, fun q hq => Nat.lt_of_lt_of_le (H.out.fin q hq) ho6.size⟩
        · rcases e with e | e | e
          · rw [e]; exact H.out.hpb
          · exact (HNO.out.lt i e).1
          · exact (H.out.depth.lt i e).1
        · rw [nodeVals_more s.n vs ⟨kind, text, kids⟩ _ HV.out, List.length_append]
          exact hN6
        · by_cases hi : i < s.n.length
          · rw [List.getElem?_append_left hi] at h1
            rw [List.getElem?_append_left (by rw [← HV.out]; exact hi)] at h2
            exact H.out.kids (HKI.out i nd v h1 h2) hW6
          · have hvl := HV.out
            rw [List.getElem?_append_right (by omega)] at h1
            rw [List.getElem?_append_right (by omega)] at h2
            have hi0 : i = s.n.length := by
              rcases Nat.lt_or_ge s.n.length i with h3 | h3
              · rw [List.getElem?_eq_none (by simp; omega)] at h1; cases h1
              · omega
            subst hi0
            rw [← hvl] at h2
            simp at h1 h2
            subst h1 h2
            exact H.out.kids HK.out hW6
        · rw [← HD.out, List.length_append, List.map_append]
          exact hD6
        · have := H.out.pos
          show (s.n ++ [_]).length ≤ 2 * s.at_ + 1
          simp
          omega
        · have hdp := H.out.deep
          intro y hy
          simp only [List.length_append, List.length_cons, List.length_nil]
          rcases List.mem_append.1 hy with h1 | h1
          · have := hdp y h1; omega
          · simp at h1; rw [h1, ← HD.out]; omega
      have ST := Lib.hid hst
      have WR := Lib.hid hW6
      have f6 : (w5.setCell ⟨pb, 3, none⟩ (.slice (some ⟨g5, 0, none⟩) (s.d.length + 1) cap5)).cell? ⟨pb, 2, none⟩ = some (.slice (some ⟨g2, 0, none⟩) (s.n.length + 1) cap2) := (cellOf c6 2).trans rfl
      clear c5 n5 fr5 hown5 hgr5 hwh5 c6 hN6 hD6 ho6 hW6 hst
      generalize w5.setCell ⟨pb, 3, none⟩ (.slice (some ⟨g5, 0, none⟩) (s.d.length + 1) cap5) = w6 at *
      go_wp2_with fail
      go_ret
      exact post_ok rfl WR.out rfl ST.out
end
end Go.Proofs.Ytoggcdldoinbnaa
