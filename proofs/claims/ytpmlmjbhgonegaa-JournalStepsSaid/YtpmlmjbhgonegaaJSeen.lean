/- Arrays of bools and of bytes in blocks; a group of the call's own beside them. -/
import Derived.Test.YtpmlmjbhgonegaaJPuts
namespace Go.Proofs.Ytpmlmjbhgonegaa
open Go.RowKit

def bools (l : List Bool) : Array Value := (l.map Value.bool).toArray
theorem bools_size (l : List Bool) : (bools l).size = l.length := by simp [bools]
theorem bools_get (l : List Bool) (i : Nat) : (bools l)[i]? = (l[i]?).map Value.bool := by simp [bools]
theorem bools_set (l : List Bool) (i : Nat) (b : Bool) : (bools l).setIfInBounds i (.bool b) = bools (l.set i b) := by
  simp [bools]
theorem bools_oneCell (l : List Bool) : ∀ v ∈ (bools l).toList, v.oneCell' = true := by
  intro v hv
  obtain ⟨b, -, rfl⟩ := List.mem_map.1 (show v ∈ l.map Value.bool from by simpa [bools] using hv)
  rfl
theorem run_storeBools_new (P : Program) (w : World) (o : Array Value) (l : List Bool) (t : TypeId) (hl : o.size = l.length) :
    (storeCells ⟨w.heap.size, 0, none⟩ (bools l).toList).run P (w.alloc (.cells o t)) = .ok () (w.alloc (.cells (bools l) t)) := by
  have := run_storeCells_from (P := P) w.heap.size t (bools l).toList 0 o (w.alloc (.cells o t)) (heap_alloc_new _ _) (by simp [bools_size, hl]) (bools_oneCell l)
  rw [this]
  simp [setRow_new]
theorem bools_cell {w : World} {b : Nat} {l : List Bool} {t : TypeId} (h : w.heap[b]? = some (.cells (bools l) t (0, 0))) {j : Nat} (hj : j < l.length) : w.cell? ⟨b, j, none⟩ = some (.bool (l.getD j false)) := by
  rw [cellOf h, bools_get, List.getD_eq_getElem?_getD, List.getElem?_eq_getElem hj]
  rfl

/-- A write to blocks of other types leaves the group. -/
theorem PutsOwn.keep {lo : Nat} {S : Nat → Prop} {w w' : World} {v : Value} {bl : List Nat} {L : List (Int × List UInt8)} (h : PutsOwn lo w v bl L) (k : Only S w w') (hS : ∀ q, S q → ∃ cs t, w.heap[q]? = some (.cells cs t (0, 0)) ∧ t ≠ 44 ∧ t ≠ 5) : PutsOwn lo w' v bl L := by
  refine ⟨?_, h.shape, h.len, fun i b hi => ?_⟩
  · refine ⟨h.own.1, ?_⟩
    rcases h.own.2 with hn | ⟨g, cap, cur, e, hb, hgg, rest⟩
    · exact .inl hn
    · refine .inr ⟨g, cap, cur, e, hb, k.keeps hgg (fun hs => ?_), rest⟩
      obtain ⟨cs, t, h1, h2, _⟩ := hS g hs
      rw [hgg] at h1
      cases h1
      exact h2 rfl
  · obtain ⟨h1, h2⟩ := h.rows i b hi
    refine ⟨h1, k.keeps h2 (fun hs => ?_)⟩
    obtain ⟨cs, t, h3, _, h4⟩ := hS b hs
    rw [h2] at h3
    cases h3
    exact h4 rfl
theorem PutsOwn.none {lo : Nat} {w w' : World} {v : Value} {bl : List Nat} {L : List (Int × List UInt8)} (h : PutsOwn lo w v bl L) (k : Only (fun _ => False) w w') : PutsOwn lo w' v bl L := h.keep k (fun _ e => e.elim)

/-- What one of sixty blocks shows. -/
def wants (hl : List UInt8) (a : Nat) : List UInt8 := if hl.getD a 0 > 0 then fullBytes (hl.getD a 0) (UInt8.ofNat a) else zeros64

/-- The group under way in the k-th round (its bytes are c): what was seen, and what the table says. -/
structure Under (c : UInt8) (base : Int) (hl : List UInt8) (sl : List Bool) (hl2 : List UInt8) (G : List (Int × List UInt8)) (N : Nat) : Prop where
  slen : sl.length = N
  hlen : hl2.length = N
  form : ∀ i, i < G.length → ∃ a, a < N ∧ slot G i = (base + (a : Nat), fullBytes c (UInt8.ofNat a)) ∧ sl.getD a false = true
  seen : ∀ a, a < N → sl.getD a false = true → ∃ i, i < G.length ∧ slot G i = (base + (a : Nat), fullBytes c (UInt8.ofNat a))
  once : ∀ i j, i < G.length → j < G.length → i ≠ j → (slot G i).1 ≠ (slot G j).1
  tab : ∀ a, a < N → hl2.getD a 0 = if sl.getD a false = true then c else hl.getD a 0

theorem getD_set_self {α : Type} (l : List α) (i : Nat) (x d : α) (h : i < l.length) : (l.set i x).getD i d = x := by
  rw [List.getD_eq_getElem?_getD, List.getElem?_set_self h]; rfl
theorem getD_set_other {α : Type} (l : List α) (i j : Nat) (x d : α) (h : i ≠ j) : (l.set i x).getD j d = l.getD j d := by
  rw [List.getD_eq_getElem?_getD, List.getElem?_set_ne h, ← List.getD_eq_getElem?_getD]

theorem slot_append_lt {G : List (Int × List UInt8)} {x : Int × List UInt8} {i : Nat} (h : i < G.length) : slot (G ++ [x]) i = slot G i := getD_append_lt _ _ _ _ h
theorem slot_append_len (G : List (Int × List UInt8)) (x : Int × List UInt8) : slot (G ++ [x]) G.length = x := getD_append_len _ _ _

theorem Under.start (c : UInt8) (base : Int) (hl : List UInt8) (N : Nat) (h : hl.length = N) : Under c base hl (List.replicate N false) hl [] N := by
  have hf : ∀ a, (List.replicate N false).getD a false = false := fun a => by
    rw [List.getD_eq_getElem?_getD, List.getElem?_replicate]
    split <;> rfl
  refine ⟨by simp, h, fun i hi => (by simp at hi), fun a _ e => absurd ((hf a).symm.trans e) (by decide), fun i j hi => (by simp at hi), fun a _ => ?_⟩
  rw [hf, if_neg (by decide)]

theorem Under.more {c : UInt8} {base : Int} {hl : List UInt8} {sl : List Bool} {hl2 : List UInt8} {G : List (Int × List UInt8)} {N : Nat} (h : Under c base hl sl hl2 G N) {a : Nat} (ha : a < N) (hs : sl.getD a false = false) :
    Under c base hl (sl.set a true) (hl2.set a c) (G ++ [(base + (a : Nat), fullBytes c (UInt8.ofNat a))]) N := by
  have hsl := h.slen
  have hhl := h.hlen
  have hnew : ∀ i, i < G.length → (slot G i).1 ≠ base + (a : Nat) := fun i hi e => by
    obtain ⟨b, hb, hf, ht⟩ := h.form i hi
    rw [hf] at e
    have : b = a := by simp only at e; omega
    subst this
    rw [hs] at ht
    cases ht
  have hget : ∀ b, b < N → ((sl.set a true).getD b false = true ↔ b = a ∨ sl.getD b false = true) := fun b hb => by
    by_cases e : a = b
    · subst e; rw [getD_set_self _ _ _ _ (by omega)]; simp
    · rw [getD_set_other _ _ _ _ _ e]
      exact ⟨.inr, fun h => h.elim (fun h => absurd h.symm e) id⟩
  refine ⟨by simp [hsl], by simp [hhl], fun i hi => ?_, fun b hb e => ?_, fun i j hi hj hne => ?_, fun b hb => ?_⟩
  · simp only [List.length_append, List.length_cons, List.length_nil] at hi
    by_cases hlt : i < G.length
    · obtain ⟨b, hb, hf, ht⟩ := h.form i hlt
      exact ⟨b, hb, by rw [slot_append_lt hlt]; exact hf, (hget b hb).2 (.inr ht)⟩
    · have : i = G.length := by omega
      subst this
      exact ⟨a, ha, slot_append_len _ _, (hget a ha).2 (.inl rfl)⟩
  · rcases (hget b hb).1 e with rfl | e
    · exact ⟨G.length, by simp, slot_append_len _ _⟩
    · obtain ⟨i, hi, hf⟩ := h.seen b hb e
      exact ⟨i, by simp; omega, by rw [slot_append_lt hi]; exact hf⟩
  · simp only [List.length_append, List.length_cons, List.length_nil] at hi hj
    by_cases hil : i < G.length
    · rw [slot_append_lt hil]
      by_cases hjl : j < G.length
      · rw [slot_append_lt hjl]; exact h.once i j hil hjl hne
      · have : j = G.length := by omega
        subst this
        rw [slot_append_len]
        exact hnew i hil
    · have : i = G.length := by omega
      subst this
      rw [slot_append_len, slot_append_lt (by omega)]
      exact (hnew j (by omega)).symm
  · by_cases e : a = b
    · subst e
      rw [getD_set_self _ _ _ _ (by omega), getD_set_self _ _ _ _ (by omega), if_pos rfl]
    · rw [getD_set_other _ _ _ _ _ e, getD_set_other _ _ _ _ _ e]
      exact h.tab b hb

theorem Under.group {c : UInt8} {base at_ len : Int} {hl : List UInt8} {sl : List Bool} {hl2 : List UInt8} {G : List (Int × List UInt8)} {N : Nat} (h : Under c base hl sl hl2 G N) (hfew : G.length ≤ 192) (h0 : 0 ≤ base) (h1 : base + (N : Nat) ≤ len) (h2 : at_ + 199 ≤ base) : IsGroup len at_ G := by
  refine ⟨hfew, fun i hi => ?_, fun i hi => ?_, fun i hi => ?_, fun i hi => ?_, h.once⟩
  all_goals
    obtain ⟨a, ha, hf, -⟩ := h.form i hi
    rw [hf]
  · simp only; omega
  · simp only; omega
  · unfold inJ; simp only; omega
  · exact fullBytes_length _ _

/-- Behind the group the blocks show what the table wants. -/
theorem Under.shows {c : UInt8} {base at_ len : Int} {hl : List UInt8} {sl : List Bool} {hl2 : List UInt8} {G : List (Int × List UInt8)} {N : Nat} (h : Under c base hl sl hl2 G N) (hg : IsGroup len at_ G) (hc : c > 0) {E : Img} (hE : ∀ a, a < N → E (base + (a : Nat)) = wants hl a) :
    ∀ a, a < N → applied G E (base + (a : Nat)) = wants hl2 a := by
  intro a ha
  have ht := h.tab a ha
  unfold wants
  rw [ht]
  by_cases hs : sl.getD a false = true
  · obtain ⟨i, hi, hf⟩ := h.seen a ha hs
    have := applied_named hg E hi
    rw [hf] at this
    rw [if_pos hs, if_pos hc]
    exact this
  · rw [if_neg hs, applied_other E (fun i hi e => by
      obtain ⟨b, hb, hf, hb2⟩ := h.form i hi
      rw [hf] at e
      have : b = a := by simp only at e; omega
      subst this
      exact hs hb2)]
    exact hE a ha
end Go.Proofs.Ytpmlmjbhgonegaa
