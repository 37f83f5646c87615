/- The parser's memory: its struct, its nodes and depths in rows of its own, the words. -/
import Derived.Test.YtoggcdldoinbnaaSynT
import Derived.Test.YtoggcdldoinbnaaSyShelf
import Derived.Test.YtoggcdldoinbnaaGrowT
import Derived.Lib.OwnKind
namespace Go.Proofs.Ytoggcdldoinbnaa
open Go.RowKit
open syn (Tok Nd PS)
set_option linter.unusedVariables false

theorem two_ty {w : World} {k : Nat} {c c' : Array Value} {t t' : TypeId} {z z' : Nat × Nat} (h : w.heap[k]? = some (.cells c t z)) (h' : w.heap[k]? = some (.cells c' t' z')) : t = t' := by
  rw [h] at h'
  injection h' with h'
  injection h'

/-- The words, in blocks below lo. -/
def WordsAt (lo : Nat) (w : World) (a : Option Addr) (l : List Tok) : Prop :=
  ∀ (i : Nat) (k : Int) (t : ByteArray), l[i]? = some (k, t) → ∃ (x : Addr) (q : Int), a = some x ∧ x.block < lo ∧ w.cell? (x.add (i * 3)) = some (.int .i64 k) ∧ w.cell? ⟨(x.add (i * 3)).block, (x.add (i * 3)).off + 1, none⟩ = some (.string t) ∧ w.cell? ⟨(x.add (i * 3)).block, (x.add (i * 3)).off + 2, none⟩ = some (.int .i64 q)
theorem WordsAt.below {lo : Nat} {w w' : World} {a : Option Addr} {l : List Tok} (h : WordsAt lo w a l) (k : Below lo w w') : WordsAt lo w' a l := by
  intro i kd t hi
  obtain ⟨x, q, hx, hb, h0, h1, h2⟩ := h i kd t hi
  exact ⟨x, q, hx, hb, (k.cell (p := x.add (i * 3)) (by rw [add_block]; exact hb)).trans h0, (k.cell (p := ⟨(x.add (i * 3)).block, (x.add (i * 3)).off + 1, none⟩) (by simp only [add_block]; exact hb)).trans h1, (k.cell (p := ⟨(x.add (i * 3)).block, (x.add (i * 3)).off + 2, none⟩) (by simp only [add_block]; exact hb)).trans h2⟩

abbrev natV (x : Nat) : Value := .int .i64 (x : Nat)
def nodeVals : List Nd → List Value → List Value
  | nd :: n, v :: vs => .int .i64 nd.kind :: .string nd.text :: v :: nodeVals n vs
  | _, _ => []
theorem nodeVals_length : ∀ (n : List Nd) (vs : List Value), n.length = vs.length → (nodeVals n vs).length = n.length * 3
  | [], [], _ => rfl
  | nd :: n, v :: vs, h => by
    simp only [nodeVals, List.length_cons]
    rw [nodeVals_length n vs (by simpa using h)]
    omega
  | [], _ :: _, h => by simp at h
  | _ :: _, [], h => by simp at h
theorem nodeVals_more : ∀ (n : List Nd) (vs : List Value) (nd : Nd) (v : Value), n.length = vs.length → nodeVals (n ++ [nd]) (vs ++ [v]) = nodeVals n vs ++ [.int .i64 nd.kind, .string nd.text, v]
  | [], [], nd, v, _ => rfl
  | m :: n, u :: vs, nd, v, h => by
    simp only [nodeVals, List.cons_append]
    rw [nodeVals_more n vs nd v (by simpa using h)]
  | [], _ :: _, nd, v, h => by simp at h
  | _ :: _, [], nd, v, h => by simp at h

/-- A row of children, in a block of its own that is not the depths'. -/
def KidsOk (F : Nat → Prop) (lo : Nat) (w : World) (dv v : Value) (kids : List Nat) : Prop :=
  (kids = [] ∧ ∃ x c, v = .slice x 0 c) ∨ ∃ g c cur, v = .slice (some ⟨g, 0, none⟩) kids.length c ∧ lo ≤ g ∧ w.heap[g]? = some (.cells cur 3 (0, 0)) ∧ (∀ (i k : Nat), kids[i]? = some k → cur[i]? = some (natV k)) ∧ dv.ownBlock ≠ some g ∧ ¬ F g
/-- A slice of ints of the call's own. -/
def Loc (F : Nat → Prop) (lo : Nat) (w : World) (dv v : Value) (xs : List Nat) : Prop := w.ownsRow lo 3 1 v xs.length (xs.map natV) ∧ ∀ q, v.ownBlock = some q → dv.ownBlock ≠ some q ∧ ¬ F q
theorem Loc.kids {F : Nat → Prop} {lo : Nat} {w : World} {dv v : Value} {xs : List Nat} (h : Loc F lo w dv v xs) : KidsOk F lo w dv v xs := by
  obtain ⟨h1, h2⟩ := h
  rcases h1.2 with ⟨rfl, e⟩ | ⟨g, cap, cur, rfl, hb, hg, hc, _, hs, ht⟩
  · exact .inl ⟨List.length_eq_zero_iff.1 e, none, 0, rfl⟩
  · refine .inr ⟨g, cap, cur, rfl, hb, hg, fun i k hi => ?_, h2 g rfl⟩
    have h3 : (cur.toList.take (xs.length * 1))[i]? = some (natV k) := by rw [ht, List.getElem?_map, hi]; rfl
    rw [List.getElem?_take] at h3
    split at h3
    · rw [← Array.getElem?_toList]; exact h3
    · cases h3
theorem Loc.nil (F : Nat → Prop) (lo : Nat) (w : World) (dv : Value) : Loc F lo w dv (.slice none 0 0) [] := ⟨World.ownsRow_nil w lo _ _, fun q e => by cases e⟩

section
variable (F : Nat → Prop) (lo : Nat) (w0 : World) (a : Option Addr) (l : List Tok) (c pb : Nat)
/-- The parser's state in memory. -/
structure St (w : World) (nv dv : Value) (s : PS) : Prop where
  below : Below lo w0 w
  hlo : lo ≤ w.heap.size
  hpb : lo ≤ pb
  words : WordsAt lo w0 a l
  few : l.length ≤ 4096
  cells : w.heap[pb]? = some (.cells #[.slice a l.length c, .int .i64 (s.at_ : Nat), nv, dv] 40 (0, 0))
  pos : s.at_ ≤ l.length
  nodes : ∃ kv : List Value, s.n.length = kv.length ∧ w.ownsRow lo 33 3 nv s.n.length (nodeVals s.n kv) ∧ ∀ (i : Nat) nd v, s.n[i]? = some nd → kv[i]? = some v → KidsOk F lo w dv v nd.kids
  depth : w.ownsRow lo 3 1 dv s.d.length (s.d.map natV)
  same : s.d.length = s.n.length
  small : s.n.length ≤ 2 * s.at_ + 1
  deep : ∀ x ∈ s.d, x ≤ s.d.length
  fin : ∀ q, F q → q < w.heap.size
/-- What the parser has written between two worlds. -/
structure Wr (nv dv : Value) (w w' : World) (nv' dv' : Value) : Prop where
  only : Only (fun q => q = pb ∨ nv.ownBlock = some q ∨ dv.ownBlock = some q) w w'
  hn : ∀ q, nv'.ownBlock = some q → nv.ownBlock = some q ∨ w.heap.size ≤ q
  hd : ∀ q, dv'.ownBlock = some q → dv.ownBlock = some q ∨ w.heap.size ≤ q
end
section
variable {F : Nat → Prop} {lo : Nat} {w0 : World} {a : Option Addr} {l : List Tok} {c pb : Nat} {w w' w1 : World} {nv dv nv' dv' nv1 dv1 : Value} {s : PS}
theorem Wr.refl (pb : Nat) (nv dv : Value) (w : World) : Wr pb nv dv w w nv dv := ⟨Only.refl _ w, fun _ h => .inl h, fun _ h => .inl h⟩
theorem Wr.same (nv dv : Value) (k : Only (fun _ => False) w w') : Wr pb nv dv w w' nv dv := ⟨k.mono (fun _ _ e => e.elim), fun _ h => .inl h, fun _ h => .inl h⟩
theorem Wr.trans (h : Wr pb nv dv w w1 nv1 dv1) (k : Wr pb nv1 dv1 w1 w' nv' dv') : Wr pb nv dv w w' nv' dv' := by
  have hsz := h.only.size
  have o1 : Only (fun q => (q = pb ∨ nv.ownBlock = some q ∨ dv.ownBlock = some q) ∨ w.heap.size ≤ q) w w1 := h.only.mono (fun _ _ e => .inl e)
  have o2 : Only (fun q => (q = pb ∨ nv.ownBlock = some q ∨ dv.ownBlock = some q) ∨ w.heap.size ≤ q) w1 w' := k.only.mono (fun q _ e => by
    rcases e with e | e | e
    · exact .inl (.inl e)
    · rcases h.hn q e with h1 | h1
      · exact .inl (.inr (.inl h1))
      · exact .inr h1
    · rcases h.hd q e with h1 | h1
      · exact .inl (.inr (.inr h1))
      · exact .inr h1)
  refine ⟨(o1.trans o2).mono (fun q hq e => by
    rcases e with e | e
    · exact e
    · omega), fun q e => ?_, fun q e => ?_⟩
  · rcases k.hn q e with h1 | h1
    · exact h.hn q h1
    · exact .inr (by omega)
  · rcases k.hd q e with h1 | h1
    · exact h.hd q h1
    · exact .inr (by omega)
/-- Which blocks are written is none of other kinds. -/
theorem St.other (h : St F lo w0 a l c pb w nv dv s) {q : Nat} {cur : Array Value} {t : TypeId} {z : Nat × Nat} (hq : w.heap[q]? = some (.cells cur t z)) (ht : t ≠ 40 ∧ t ≠ 33 ∧ (t = 3 → dv.ownBlock ≠ some q)) : ¬ (q = pb ∨ nv.ownBlock = some q ∨ dv.ownBlock = some q) := by
  rintro (rfl | e | e)
  · exact ht.1 (two_ty hq h.cells)
  · obtain ⟨kv, _, h1, _⟩ := h.nodes
    obtain ⟨c2, z2, h2⟩ := Lib.ownsRow_kind h1 q e
    exact ht.2.1 (two_ty hq h2)
  · obtain ⟨c2, z2, h2⟩ := Lib.ownsRow_kind h.depth q e
    exact ht.2.2 (two_ty hq h2) e
theorem St.kids (h : St F lo w0 a l c pb w nv dv s) {v : Value} {kids : List Nat} (k : KidsOk F lo w dv v kids) (hw : Wr pb nv dv w w' nv' dv') : KidsOk F lo w' dv' v kids := by
  rcases k with ⟨e, h1⟩ | ⟨g, cc, cur, rfl, h1, h2, h3, h4, h6⟩
  · exact .inl ⟨e, h1⟩
  · refine .inr ⟨g, cc, cur, rfl, h1, hw.only.keeps h2 (h.other h2 ⟨by decide, by decide, fun _ => h4⟩), h3, fun e => ?_, h6⟩
    rcases hw.hd g e with h5 | h5
    · exact h4 h5
    · have := lt_of_heap h2
      omega
theorem St.loc (h : St F lo w0 a l c pb w nv dv s) {F2 : Nat → Prop} {v : Value} {xs : List Nat} (k : Loc F2 lo w dv v xs) (hw : Wr pb nv dv w w' nv' dv') : Loc F2 lo w' dv' v xs := by
  obtain ⟨h1, h2⟩ := k
  refine ⟨⟨h1.1, ?_⟩, fun q e => ⟨fun e2 => ?_, (h2 q e).2⟩⟩
  · rcases h1.2 with h3 | ⟨g, cap, cur, rfl, hb, hg, rest⟩
    · exact .inl h3
    · exact .inr ⟨g, cap, cur, rfl, hb, hw.only.keeps hg (h.other hg ⟨by decide, by decide, fun _ => (h2 g rfl).1⟩), rest⟩
  · rcases hw.hd q e2 with h5 | h5
    · exact (h2 q e).1 h5
    · have := (h1.lt q e).2
      omega
/-- Nothing is written: new blocks alone. -/
theorem St.grow (h : St F lo w0 a l c pb w nv dv s) (k : Only (fun _ => False) w w') : St F lo w0 a l c pb w' nv dv s := by
  have hw : Wr pb nv dv w w' nv dv := Wr.same nv dv k
  have keep : ∀ {t : TypeId} {size n : Nat} {v : Value} {xs : List Value}, w.ownsRow lo t size v n xs → w'.ownsRow lo t size v n xs := fun h1 => ⟨h1.1, by
    rcases h1.2 with h3 | ⟨g, cap, cur, e, hb, hg, rest⟩
    · exact .inl h3
    · exact .inr ⟨g, cap, cur, e, hb, k.keeps hg (fun e => e), rest⟩⟩
  obtain ⟨kv, h1, h2, h3⟩ := h.nodes
  exact ⟨k.below h.below h.hlo (fun _ e => e.elim), Nat.le_trans h.hlo k.size, h.hpb, h.words, h.few, k.keeps h.cells (fun e => e), h.pos, ⟨kv, h1, keep h2, fun i nd v h4 h5 => h.kids (h3 i nd v h4 h5) hw⟩, keep h.depth, h.same, h.small, h.deep, fun q hq => Nat.lt_of_lt_of_le (h.fin q hq) k.size⟩
theorem St.drew (h : St F lo w0 a l c pb w nv dv s) : St F lo w0 a l c pb w.drew nv dv s := h.grow ((Only.refl _ w).drew)
/-- Fewer blocks to be avoided. -/
theorem St.less {F' : Nat → Prop} (h : St F' lo w0 a l c pb w nv dv s) (hF : ∀ q, F q → F' q) : St F lo w0 a l c pb w nv dv s := by
  obtain ⟨kv, h1, h2, h3⟩ := h.nodes
  refine { h with nodes := ⟨kv, h1, h2, fun i nd v h4 h5 => ?_⟩, fin := fun q hq => h.fin q (hF q hq) }
  rcases h3 i nd v h4 h5 with h6 | ⟨g, cc, cur, e, h7, h8, h9, h10, h11⟩
  · exact .inl h6
  · exact .inr ⟨g, cc, cur, e, h7, h8, h9, h10, fun hf => h11 (hF g hf)⟩
theorem St.word (h : St F lo w0 a l c pb w nv dv s) : WordsAt lo w a l := h.words.below h.below
/-- One word further. -/
theorem St.adv (h : St F lo w0 a l c pb w nv dv s) (hp : s.at_ < l.length) : St F lo w0 a l c pb (w.setCell ⟨pb, 1, none⟩ (.int .i64 ((s.at_ + 1 : Nat) : Int))) nv dv { s with at_ := s.at_ + 1 } ∧ Wr pb nv dv w (w.setCell ⟨pb, 1, none⟩ (.int .i64 ((s.at_ + 1 : Nat) : Int))) nv dv := by
  have o : Only (· = pb) w (w.setCell ⟨pb, 1, none⟩ (.int .i64 ((s.at_ + 1 : Nat) : Int))) := (Only.refl _ w).put 1 _
  have hw : Wr pb nv dv w (w.setCell ⟨pb, 1, none⟩ (.int .i64 ((s.at_ + 1 : Nat) : Int))) nv dv := ⟨o.mono (fun _ _ e => .inl e), fun _ h => .inl h, fun _ h => .inl h⟩
  obtain ⟨kv, h1, h2, h3⟩ := h.nodes
  have keep : ∀ {t : TypeId} {size n : Nat} {v : Value} {xs : List Value}, t ≠ 40 → w.ownsRow lo t size v n xs → (w.setCell ⟨pb, 1, none⟩ (.int .i64 ((s.at_ + 1 : Nat) : Int))).ownsRow lo t size v n xs := fun ht h1 => ⟨h1.1, by
    rcases h1.2 with h3 | ⟨g, cap, cur, e, hb, hg, rest⟩
    · exact .inl h3
    · exact .inr ⟨g, cap, cur, e, hb, o.keeps hg (fun e => by subst e; exact ht (two_ty hg h.cells)), rest⟩⟩
  refine ⟨⟨o.below h.below h.hlo (fun i e => by rw [e]; exact h.hpb), Nat.le_trans h.hlo o.size, h.hpb, h.words, h.few, ?_, hp, ⟨kv, h1, keep (by decide) h2, fun i nd v h4 h5 => h.kids (h3 i nd v h4 h5) hw⟩, keep (by decide) h.depth, h.same, by have := h.small; show s.n.length ≤ 2 * (s.at_ + 1) + 1; omega, h.deep, fun q hq => Nat.lt_of_lt_of_le (h.fin q hq) o.size⟩, hw⟩
  rw [heap_setCell_same w pb 1 _ _ _ h.cells]
  rfl
end
end Go.Proofs.Ytoggcdldoinbnaa
