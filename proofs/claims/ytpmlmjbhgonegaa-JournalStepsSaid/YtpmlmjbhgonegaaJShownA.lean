/- The laws' head: the document's examples. -/
import Derived.Test.YtpmlmjbhgonegaaJGround
import Derived.Test.YtpmlmjbhgonegaaJCommit
namespace Go.Proofs.Ytpmlmjbhgonegaa
open Go.RowKit

theorem add_zero_two (b : Nat) : (⟨b, 0, none⟩ : Addr).add (0 * 2) = ⟨b, 0, none⟩ ∧ (⟨b, 0, none⟩ : Addr).add (1 * 2) = ⟨b, 2, none⟩ := ⟨add_zero_block b 0, add_zero_block b 2⟩

theorem puts_one {T : Nat → Prop} (w : World) (b1 : Nat) (l1 : List UInt8) (n1 : Int) (t : TypeId) (r1 : RowAt w ⟨b1, 0, none⟩ l1) (h1 : l1.length = 64) (t1 : ¬ T b1) (tn : ¬ T w.heap.size) :
    PutsAt T (w.alloc (.cells #[.int .i64 n1, .slice (some ⟨b1, 0, none⟩) 64 64] t)) (some ⟨w.heap.size, 0, none⟩) [(n1, l1)] := by
  have k := (Only.refl (fun _ => False) w).alloc (.cells #[.int .i64 n1, .slice (some ⟨b1, 0, none⟩) 64 64] t)
  intro i b bs hi
  match i, hi with
  | 0, hi =>
    simp at hi
    obtain ⟨rfl, rfl⟩ := hi
    refine ⟨⟨w.heap.size, 0, none⟩, some ⟨b1, 0, none⟩, 64, rfl, ?_, ?_, .of_row (r1.grow k (by omega)), tn, fun s e _ => by cases e; exact t1⟩
    · rw [(add_zero_two _).1, cellOf (heap_alloc_new _ _)]; rfl
    · rw [(add_zero_two _).1, cellOf (heap_alloc_new _ _), h1]; rfl
theorem puts_two {T : Nat → Prop} (w : World) (b1 b2 : Nat) (l1 l2 : List UInt8) (n1 n2 : Int) (t : TypeId) (r1 : RowAt w ⟨b1, 0, none⟩ l1) (r2 : RowAt w ⟨b2, 0, none⟩ l2) (h1 : l1.length = 64) (h2 : l2.length = 64) (t1 : ¬ T b1) (t2 : ¬ T b2) (tn : ¬ T w.heap.size) :
    PutsAt T (w.alloc (.cells #[.int .i64 n1, .slice (some ⟨b1, 0, none⟩) 64 64, .int .i64 n2, .slice (some ⟨b2, 0, none⟩) 64 64] t)) (some ⟨w.heap.size, 0, none⟩) [(n1, l1), (n2, l2)] := by
  have k := (Only.refl (fun _ => False) w).alloc (.cells #[.int .i64 n1, .slice (some ⟨b1, 0, none⟩) 64 64, .int .i64 n2, .slice (some ⟨b2, 0, none⟩) 64 64] t)
  intro i b bs hi
  match i, hi with
  | 0, hi =>
    simp at hi
    obtain ⟨rfl, rfl⟩ := hi
    refine ⟨⟨w.heap.size, 0, none⟩, some ⟨b1, 0, none⟩, 64, rfl, ?_, ?_, .of_row (r1.grow k (by omega)), tn, fun s e _ => by cases e; exact t1⟩
    · rw [(add_zero_two _).1, cellOf (heap_alloc_new _ _)]; rfl
    · rw [(add_zero_two _).1, cellOf (heap_alloc_new _ _), h1]; rfl
  | 1, hi =>
    simp at hi
    obtain ⟨rfl, rfl⟩ := hi
    refine ⟨⟨w.heap.size, 0, none⟩, some ⟨b2, 0, none⟩, 64, rfl, ?_, ?_, .of_row (r2.grow k (by omega)), tn, fun s e _ => by cases e; exact t2⟩
    · rw [(add_zero_two _).2, cellOf (heap_alloc_new _ _)]; rfl
    · rw [(add_zero_two _).2, cellOf (heap_alloc_new _ _), h2]; rfl

/-- A group may be. -/
theorem may_of_group {D : DK} {len at_ : Int} {l : List (Int × List UInt8)} (hlen : D.len = len) (hg : IsGroup len at_ l) : jMay D at_ l = true := by
  unfold jMay jMayTo
  simp only [Bool.and_eq_true, decide_eq_true_eq, List.all_eq_true, List.mem_range]
  refine ⟨fun i hi => ?_, hg.few⟩
  have h1 := hg.lo i hi
  have h2 := hg.hi i hi
  have h3 := hg.own i hi
  have h4 := hg.full i hi
  unfold inJ at h3
  show jMayOne D at_ ((l.take i).map (·.1)) (slot l i).1 (slot l i).2.length = true
  unfold jMayOne
  have hm : (slot l i).1 ∉ (l.take i).map (·.1) := by
    intro hm
    obtain ⟨x, hx, e⟩ := List.mem_map.1 hm
    obtain ⟨j, hj, e2⟩ := List.mem_iff_getElem.1 hx
    simp at hj
    rw [List.getElem_take] at e2
    have : slot l j = x := slot_some (by rw [List.getElem?_eq_getElem (by omega), e2])
    exact hg.once j i (by omega) hi (by omega) (by rw [this, e])
  rw [decide_eq_false hm, decide_eq_false h3, decide_eq_false (by omega), decide_eq_false (by omega), decide_eq_false (by omega)]
  rfl
theorem group_of_may {D : DK} {len at_ : Int} {l : List (Int × List UInt8)} (hlen : D.len = len) (h : jMay D at_ l = true) : IsGroup len at_ l := by
  unfold jMay jMayTo at h
  simp only [Bool.and_eq_true, decide_eq_true_eq, List.all_eq_true, List.mem_range] at h
  obtain ⟨h, hfew⟩ := h
  have hone : ∀ i, i < l.length → jMayOne D at_ ((l.take i).map (·.1)) (slot l i).1 (slot l i).2.length = true := h
  have hall : ∀ i, i < l.length → (slot l i).1 ∉ (l.take i).map (·.1) ∧ ¬ inJ at_ (slot l i).1 ∧ 0 ≤ (slot l i).1 ∧ (slot l i).1 < D.len ∧ (slot l i).2.length = 64 := by
    intro i hi
    have := hone i hi
    unfold jMayOne at this
    simp only [Bool.not_eq_true', Bool.or_eq_false_iff, decide_eq_false_iff_not] at this
    obtain ⟨⟨⟨⟨a, b⟩, c⟩, d⟩, e⟩ := this
    exact ⟨a, b, by omega, by omega, by omega⟩
  have hlt : ∀ i j, i < j → j < l.length → (slot l i).1 ≠ (slot l j).1 := by
    intro i j hij hj e
    refine (hall j hj).1 ?_
    rw [← e]
    refine List.mem_map.2 ⟨slot l i, ?_, rfl⟩
    rw [List.mem_iff_getElem?]
    exact ⟨i, by rw [List.getElem?_take, if_pos hij]; exact slot_lt (by omega)⟩
  refine ⟨hfew, fun i hi => (hall i hi).2.2.1, fun i hi => by rw [← hlen]; exact (hall i hi).2.2.2.1, fun i hi => (hall i hi).2.1, fun i hi => (hall i hi).2.2.2.2, fun i j hi hj hne => ?_⟩
  rcases Nat.lt_or_gt_of_ne hne with h' | h'
  · exact hlt i j h' hj
  · exact fun e => hlt j i h' hi e.symm

def shA : List (Int × List UInt8) := [(220, fullBytes 1 1), (221, fullBytes 2 2)]
def shB : List (Int × List UInt8) := [(220, fullBytes 1 1), (220, fullBytes 1 1)]
def shC : List (Int × List UInt8) := [(5, fullBytes 1 1)]
def shD : List (Int × List UInt8) := [(220, fullBytes 3 3)]
theorem may_A {D : DK} (h : D.len = 259) : jMay D 0 shA = true := by
  simp [jMay, jMayTo, jMayOne, shA, List.range_succ, h, fullBytes_length]
theorem may_B {D : DK} (h : D.len = 259) : jMay D 0 shB = false := by
  simp [jMay, jMayTo, jMayOne, shB, List.range_succ, h, fullBytes_length]
theorem may_C {D : DK} (h : D.len = 259) : jMay D 0 shC = false := by
  simp [jMay, jMayTo, jMayOne, shC, List.range_succ, h, fullBytes_length]
theorem may_D {D : DK} (h : D.len = 259) : jMay D 0 shD = true := by
  simp [jMay, jMayTo, jMayOne, shD, List.range_succ, h, fullBytes_length]
theorem commit_not (D : DK) (at_ : Int) (g : Nat) (l : List (Int × List UInt8)) : jCommit D at_ g l false = (D, 20, g) := by unfold jCommit; rw [if_pos rfl]
theorem commit_D {D : DK} {g : Nat} (hlen : D.len = 259) (hoff : D.off = false) (hf : D.fuse = 0) : jCommit D 0 g shD true = (D.blown, 2, g) := by
  rcases write_on D 7 (fullBytes 3 3) hoff (by decide) (by omega) (fullBytes_length 3 3) with ⟨h, _⟩ | ⟨_, e⟩
  · exact absurd hf h
  · exact jCommit_puts (jRow_bad _ 0 0 D _ 2 e (by decide)) (by decide)
end Go.Proofs.Ytpmlmjbhgonegaa
