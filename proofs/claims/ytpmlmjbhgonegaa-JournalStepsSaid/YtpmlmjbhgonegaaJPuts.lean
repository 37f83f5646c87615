/- A group that a law builds: a slice of Put of the call's own, put by put. -/
import Derived.Test.YtpmlmjbhgonegaaJRows
namespace Go.Proofs.Ytpmlmjbhgonegaa
open Go.RowKit

def putVals (L : List (Int × List UInt8)) (bl : List Nat) : List Value := (L.zip bl).flatMap fun x => [.int .i64 x.1.1, rowVal x.2]
theorem putVals_more {L : List (Int × List UInt8)} {bl : List Nat} (h : L.length = bl.length) (x : Int × List UInt8) (b : Nat) : putVals (L ++ [x]) (bl ++ [b]) = putVals L bl ++ [.int .i64 x.1, rowVal b] := by
  unfold putVals
  rw [List.zip_append h, List.flatMap_append]
  rfl
theorem putVals_at : ∀ (L : List (Int × List UInt8)) (bl : List Nat) (i : Nat) x b, L[i]? = some x → bl[i]? = some b → (putVals L bl)[i * 2]? = some (.int .i64 x.1) ∧ (putVals L bl)[i * 2 + 1]? = some (rowVal b)
  | [], _, i, x, b, h, _ => by simp at h
  | y :: L, [], i, x, b, _, h => by simp at h
  | y :: L, c :: bl, 0, x, b, h1, h2 => by
    simp at h1 h2
    subst h1 h2
    simp [putVals]
  | y :: L, c :: bl, i + 1, x, b, h1, h2 => by
    have ih := putVals_at L bl i x b (by simpa using h1) (by simpa using h2)
    have e : putVals (y :: L) (c :: bl) = .int .i64 y.1 :: rowVal c :: putVals L bl := by simp [putVals]
    rw [e, show (i + 1) * 2 = i * 2 + 2 by omega, show i * 2 + 2 + 1 = (i * 2 + 1) + 2 by omega]
    simpa using ih

/-- The slice, the blocks that its puts show, and what they say. -/
structure PutsOwn (lo : Nat) (w : World) (v : Value) (bl : List Nat) (L : List (Int × List UInt8)) : Prop where
  own : w.ownsRow lo 44 2 v L.length (putVals L bl)
  shape : ∃ g c, v = .slice (some ⟨g, 0, none⟩) L.length c
  len : L.length = bl.length
  rows : ∀ (i : Nat) b, bl[i]? = some b → lo ≤ b ∧ w.heap[b]? = some (.cells (bvs (slot L i).2) 5 (0, 0))

theorem put_info : ∃ i, Try.prog.info? 44 = some i ∧ i.zero = some (.agg #[.int .i64 0, .slice none 0 0]) ∧ i.size = 2 ∧ i.bytes = 32 := by
  have h : (Try.prog.info? 44).map (fun i => (i.zero, i.size, i.bytes)) = some (some (.agg #[.int .i64 0, .slice none 0 0]), 2, 32) := by kernel_rfl
  cases hq : Try.prog.info? 44 with
  | none => rw [hq] at h; cases h
  | some i =>
    rw [hq] at h
    simp at h
    exact ⟨i, rfl, h.1, h.2.1, h.2.2⟩

theorem PutsOwn.start (w : World) : PutsOwn w.heap.size (w.alloc (.cells #[] 44)) (.slice (some ⟨w.heap.size, 0, none⟩) 0 0) [] [] :=
  ⟨World.ownsRow_made w #[] 0 (Nat.le_refl _) (by decide) rfl, ⟨_, _, rfl⟩, rfl, fun i b e => by simp at e⟩

theorem PutsOwn.puts {lo : Nat} {w : World} {x : Option Addr} {n c : Nat} {bl : List Nat} {L : List (Int × List UInt8)} (h : PutsOwn lo w (.slice x n c) bl L) (hL : ∀ i, i < L.length → (slot L i).2.length = 64) {T : Nat → Prop} (hT : ∀ k, T k → k < lo) : n = L.length ∧ PutsAt T w x L := by
  obtain ⟨g, c', e⟩ := h.shape
  cases e
  refine ⟨rfl, fun i b bs hi => ?_⟩
  have hil : i < L.length := by
    rcases Nat.lt_or_ge i L.length with h1 | h1
    · exact h1
    · rw [List.getElem?_eq_none h1] at hi; cases hi
  obtain ⟨q, hq⟩ : ∃ q, bl[i]? = .some q := ⟨_, List.getElem?_eq_getElem (by rw [← h.len]; exact hil)⟩
  obtain ⟨hlo, hblk⟩ := h.rows i q hq
  have hs : slot L i = (b, bs) := slot_some hi
  have h64 := hL i hil
  rw [hs] at hblk h64
  obtain ⟨v0, v1⟩ := putVals_at L bl i (b, bs) q hi hq
  refine ⟨⟨g, 0, none⟩, .some ⟨q, 0, none⟩, 64, rfl, h.own.cells (g := g) rfl (i * 2) _ v0, ?_, .of_row (.of_cells hblk), fun e => absurd (hT _ e) (Nat.not_lt.2 (h.own.lt g rfl).1), fun s e _ => by cases e; exact fun e => absurd (hT _ e) (Nat.not_lt.2 hlo)⟩
  have h2 := h.own.cells (g := g) rfl (i * 2 + 1) _ v1
  rw [add_zero_block] at h2
  rw [add_zero_block]
  simp only at h64
  rw [h64]
  exact h2

theorem PutsOwn.more {lo : Nat} {w w7 : World} {v v' : Value} {bl : List Nat} {L : List (Int × List UInt8)} {n : Int} {l : List UInt8} (h : PutsOwn lo w v bl L)
    (hown : w7.ownsRow lo 44 2 v' (L.length + 1) (putVals L bl ++ [.int .i64 n, rowVal w.heap.size])) (hgr : ((w.alloc (.cells (bvs l) 5)).alloc (.cells #[.int .i64 n, rowVal w.heap.size] 44)).grownBy w7 v.ownBlock)
    (hlo : lo ≤ w.heap.size) : PutsOwn lo w7 v' (bl ++ [w.heap.size]) (L ++ [(n, l)]) := by
  obtain ⟨g, c, hv⟩ := h.shape
  have hgown : ∃ cur, w.heap[g]? = some (.cells cur 44 (0, 0)) := by
    rcases h.own.2 with ⟨e, _⟩ | ⟨g', cap, cur, e, _, hg, _⟩
    · rw [hv] at e; cases e
    · rw [hv] at e; cases e; exact ⟨cur, hg⟩
  obtain ⟨cur, hcur⟩ := hgown
  have k2 := ((Only.refl (fun _ => False) w).alloc (.cells (bvs l) 5)).alloc (.cells #[.int .i64 n, rowVal w.heap.size] 44)
  have hkeep : ∀ (b : Nat) o, ((w.alloc (.cells (bvs l) 5)).alloc (.cells #[.int .i64 n, rowVal w.heap.size] 44)).heap[b]? = some o → b ≠ g → w7.heap[b]? = some o := fun b o hb hne => by
    rw [hgr.block b (lt_of_heap hb) (fun e => hne (by rw [hv] at e; simpa [Value.ownBlock] using e))]
    exact hb
  refine ⟨?_, ?_, by simp [h.len], fun i b hi => ?_⟩
  · rw [putVals_more h.len]; simpa using hown
  · rcases hown.2 with ⟨_, e⟩ | ⟨g', cap, cur', e, _⟩
    · omega
    · exact ⟨g', cap, by simpa using e⟩
  · by_cases hil : i < bl.length
    · rw [List.getElem?_append_left hil] at hi
      obtain ⟨h1, h2⟩ := h.rows i b hi
      refine ⟨h1, ?_⟩
      unfold slot at h2 ⊢
      rw [getD_append_lt _ _ _ _ (by rw [h.len]; exact hil)]
      refine hkeep b _ (k2.keeps h2 (fun e => e)) (fun e => ?_)
      subst e
      rw [hcur] at h2
      injection h2 with h2
      injection h2 with _ h2 _
      exact absurd h2 (by decide)
    · rw [List.getElem?_append_right (by omega)] at hi
      have hib : i = bl.length := by
        rcases Nat.lt_or_ge bl.length i with h1 | h1
        · rw [List.getElem?_eq_none (by simp; omega)] at hi; cases hi
        · omega
      subst hib
      simp at hi
      subst hi
      refine ⟨hlo, ?_⟩
      unfold slot
      rw [← h.len, getD_append_len]
      refine hkeep _ _ ?_ (fun e => by rw [← e] at hcur; exact absurd (lt_of_heap hcur) (Nat.lt_irrefl _))
      rw [heap_alloc_old _ _ (by simp)]
      exact heap_alloc_new _ _
end Go.Proofs.Ytpmlmjbhgonegaa
