/- The argument []Op of JournalCrashes, opened. -/
import Derived.Test.YtpmlmjbhgonegaaJWith
import Derived.Test.YtpmlmjbhgonegaaStructs
import Derived.Test.YtpmlmjbhgonegaaBytesArg
import Derived.ProofKit
import Derived.OpenShut
namespace Go.Proofs.Ytpmlmjbhgonegaa
open Go.ChangeShapes Go.WideShapes Go.Deep Go.RowKit

/-- A slice of Put that came in. -/
def PutsArg (w : World) (a : Option Addr) (n : Nat) : Prop := n ≤ 9223372036854775807 ∧ ∃ l : List (Int × List UInt8), n = l.length ∧ PutsAt (fun i => w.heap.size ≤ i) w a l

/-- Choosing a list's elements. -/
theorem list_of {α : Type} (n : Nat) (Q : Nat → α → Prop) (h : ∀ i, i < n → ∃ x, Q i x) : ∃ l : List α, l.length = n ∧ ∀ i x, l[i]? = some x → Q i x := by
  induction n with
  | zero => exact ⟨[], rfl, fun i x e => by simp at e⟩
  | succ n ih =>
    obtain ⟨l, hl, hq⟩ := ih (fun i hi => h i (by omega))
    obtain ⟨x, hx⟩ := h n (by omega)
    refine ⟨l ++ [x], by simp [hl], fun i y e => ?_⟩
    by_cases hi : i < l.length
    · rw [List.getElem?_append_left hi] at e
      exact hq i y e
    · rw [List.getElem?_append_right (by omega)] at e
      have hin : i = n := by
        rcases Nat.lt_or_ge n i with h1 | h1
        · rw [List.getElem?_eq_none (by simp; omega)] at e; cases e
        · omega
      subst hin
      rw [hl, Nat.sub_self] at e
      simp at e
      subst e
      exact hx

theorem bytes_slice {w : World} {a : Option Addr} {n : Nat} (h : BytesArg w a n) : ∃ bs : List UInt8, bs.length = n ∧ SliceAt w a bs ∧ ∀ s, a = some s → bs ≠ [] → s.block < w.heap.size := by
  obtain ⟨-, l, hl, hi⟩ := h
  refine ⟨l, hl, ⟨fun ad e j b hj => ?_, fun hne => ?_⟩, fun s e hne => ?_⟩
  · have hjl : j < l.length := by
      rcases Nat.lt_or_ge j l.length with h1 | h1
      · exact h1
      · rw [List.getElem?_eq_none h1] at hj; cases hj
    obtain ⟨x, e2, _, hc⟩ := hi j (by omega)
    rw [e] at e2
    cases e2
    rw [hc, List.getD_eq_getElem?_getD, hj]
    rfl
  · obtain ⟨x, e, _⟩ := hi 0 (by have := List.length_pos_iff.2 hne; omega)
    exact ⟨x, e⟩
  · obtain ⟨x, e2, hx, _⟩ := hi 0 (by have := List.length_pos_iff.2 hne; omega)
    rw [e] at e2
    cases e2
    exact hx

theorem puts_open {H : Type} {enc : TypeId × Value → H} {w : World} {fuel : Nat} {a : Option Addr} {len cap : Nat} {x : DataW H × List MemPlace}
    (h : DataW.trod enc Try.prog w 0 (fun _ => true) true fuel 40 [.slice a len cap] = some x) : PutsArg w a len := by
  rcases open_slice_fields Try.underlying40 Try.underlying44 (by kernel_rfl) (by kernel_rfl) h with ⟨hcs, _⟩ | ⟨ad, l, c, m, D, Pl, hcs, _, hl, hm, hmm, _, hi⟩
  · simp at hcs
    obtain ⟨rfl, rfl, rfl⟩ := hcs
    exact ⟨by omega, [], rfl, fun i b bs e => by simp at e⟩
  · simp at hcs
    obtain ⟨rfl, rfl, rfl⟩ := hcs
    unfold maxLen at hm
    refine ⟨by omega, ?_⟩
    simp only [if_true] at hmm
    obtain ⟨L, hL, hq⟩ := list_of len (fun i (p : Int × List UInt8) => ∃ (a1 : Option Addr) (c1 : Nat), w.cell? (ad.add (i * 2)) = some (.int .i64 p.1) ∧ w.cell? ⟨(ad.add (i * 2)).block, (ad.add (i * 2)).off + 1, none⟩ = some (.slice a1 p.2.length c1) ∧ SliceAt w a1 p.2 ∧ ad.block < w.heap.size ∧ ∀ s, a1 = some s → p.2 ≠ [] → s.block < w.heap.size) (fun i hil => by
      obtain ⟨ys, n, _, _, _, hf⟩ := hi i (by omega)
      obtain ⟨v0, y0, c0, _, t0⟩ := hf 0 _ rfl
      obtain ⟨v1, y1, c1, _, t1⟩ := hf 1 _ rfl
      obtain ⟨k, e0, _, _⟩ := DataW.trod_int Try.underlying3 t0
      simp at e0
      subst e0
      have t1' := t1
      obtain ⟨a1, n1, cc1, rfl⟩ : ∃ a1 n1 cc1, v1 = .slice a1 n1 cc1 := by
        rcases open_slice Try.underlying32 t1 with ⟨e, _⟩ | ⟨a1, n1, cc1, _, _, _, _, e, _⟩
        · simp at e; exact ⟨_, _, _, e⟩
        · simp at e; exact ⟨_, _, _, e⟩
      obtain ⟨bs, hbs, hsl, hlt⟩ := bytes_slice (bytes_open t1')
      have c1 : w.cell? (ad.add (i * 2 + (0 + 1))) = some (.slice a1 n1 cc1) := c1
      rw [add_part] at c1
      have hb := block_lt_of_cell c0
      rw [add_block] at hb
      exact ⟨(k, bs), a1, cc1, c0, by rw [hbs]; exact c1, hsl, hb, hlt⟩)
    refine ⟨L, hL.symm, fun i b bs e => ?_⟩
    obtain ⟨a1, c1, h1, h2, h3, h4, h5⟩ := hq i (b, bs) e
    exact ⟨ad, a1, c1, rfl, h1, h2, h3, Nat.not_le.2 h4, fun s e hl => Nat.not_le.2 (h5 s e hl)⟩

/-- The cells of a slice of the law's Op. -/
def CrashOps (w : World) (a : Option Addr) (len : Nat) : Prop :=
  len ≤ 9223372036854775807 ∧ ∀ i, i < len → ∃ (x : Addr) (kd nn : Int) (a1 : Option Addr) (n1 c1 : Nat), a = some x ∧ x.block < w.heap.size ∧ w.cell? (x.add (i * 3)) = some (.int .i64 kd) ∧ w.cell? ⟨(x.add (i * 3)).block, (x.add (i * 3)).off + 1, none⟩ = some (.int .i64 nn) ∧
    w.cell? ⟨(x.add (i * 3)).block, (x.add (i * 3)).off + 2, none⟩ = some (.slice a1 n1 c1) ∧ I64 kd ∧ I64 nn ∧ PutsArg w a1 n1

theorem crash_open {H : Type} {enc : TypeId × Value → H} {w : World} {fuel : Nat} {a : Option Addr} {len cap : Nat} {x : DataW H × List MemPlace}
    (h : DataW.trod enc Try.prog w 0 (fun _ => true) true fuel 56 [.slice a len cap] = some x) : CrashOps w a len := by
  rcases open_slice_fields Try.underlying56 Try.underlying58 (by kernel_rfl) (by kernel_rfl) h with ⟨hcs, _⟩ | ⟨ad, l, c, m, D, Pl, hcs, _, hl, hm, hmm, _, hi⟩
  · simp at hcs
    obtain ⟨rfl, rfl, rfl⟩ := hcs
    exact ⟨by omega, fun i hi => by omega⟩
  · simp at hcs
    obtain ⟨rfl, rfl, rfl⟩ := hcs
    unfold maxLen at hm
    refine ⟨by omega, fun i hil => ?_⟩
    simp only [if_true] at hmm
    obtain ⟨ys, n, _, _, _, hf⟩ := hi i (by omega)
    obtain ⟨v0, y0, c0, _, t0⟩ := hf 0 _ rfl
    obtain ⟨v1, y1, c1, _, t1⟩ := hf 1 _ rfl
    obtain ⟨v2, y2, c2, _, t2⟩ := hf 2 _ rfl
    obtain ⟨k, e0, _, w0⟩ := DataW.trod_int Try.underlying3 t0
    obtain ⟨nn, e1, _, w1⟩ := DataW.trod_int Try.underlying3 t1
    simp at e0 e1
    subst e0 e1
    have t2' := t2
    obtain ⟨a1, n1, cc1, rfl⟩ : ∃ a1 n1 cc1, v2 = .slice a1 n1 cc1 := by
      rcases open_slice Try.underlying40 t2 with ⟨e, _⟩ | ⟨a1, n1, cc1, _, _, _, _, e, _⟩
      · simp at e; exact ⟨_, _, _, e⟩
      · simp at e; exact ⟨_, _, _, e⟩
    have c1 : w.cell? (ad.add (i * 3 + (0 + 1))) = some (.int .i64 nn) := c1
    rw [add_part] at c1
    have c2 : w.cell? (ad.add (i * 3 + (1 + 1))) = some (.slice a1 n1 cc1) := c2
    rw [add_part] at c2
    have hb := block_lt_of_cell c0
    rw [add_block] at hb
    exact ⟨ad, k, nn, a1, n1, cc1, rfl, hb, c0, c1, c2, wf64 w0, wf64 w1, puts_open t2'⟩
end Go.Proofs.Ytpmlmjbhgonegaa
