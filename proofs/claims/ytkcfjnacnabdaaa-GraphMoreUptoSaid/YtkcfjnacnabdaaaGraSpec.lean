/- The order of a graph, in plain words: what Order's two answers mean. -/
import Derived.Test.YtkcfjnacnabdaaaPGx4
namespace Go.Proofs.Ytkcfjnacnabdaaa.PG
open Go.RowKit Go.Proofs.YtkcfjnacnabdaaaW.PrintWords Go.Proofs.YtkcfjnacnabdaaaW.PrintLast Go.Proofs.YtkcfjnacnabdaaaW.PrintMore

abbrev Ed := S32
def Edge (l : List Ed) (u v : Int) : Prop := ∃ x ∈ l, x.f0 = u ∧ x.f1 = v
structure Good (n : Nat) (l : List Ed) : Prop where
  n32 : n ≤ 32
  ok : ∀ x ∈ l, 0 ≤ x.f0 ∧ x.f0 < n ∧ 0 ≤ x.f1 ∧ x.f1 < n
theorem Good.edge {n : Nat} {l : List Ed} {u v : Int} (g : Good n l) (e : Edge l u v) : 0 ≤ u ∧ u < n ∧ 0 ≤ v ∧ v < n := by
  obtain ⟨x, hx, rfl, rfl⟩ := e
  exact g.ok x hx
theorem waits_cases {n : Nat} {l : List Ed} (g : Good n l) (d : List Bool) (i : Int) :
    (waitsG d l i < 0 ∧ ∀ u, Edge l u i → rdOf false d u = true) ∨ (0 ≤ waitsG d l i ∧ Edge l (waitsG d l i) i ∧ rdOf false d (waitsG d l i) = false) := by
  unfold waitsG
  cases h : l.find? (waitsP d i) with
  | none =>
    left
    refine ⟨by decide, ?_⟩
    rintro u ⟨x, hx, rfl, rfl⟩
    have := List.find?_eq_none.1 h x hx
    unfold waitsP at this
    simpa using this
  | some x =>
    right
    have h1 := List.find?_some h
    have h2 := List.mem_of_find?_eq_some h
    unfold waitsP at h1
    simp only [Bool.and_eq_true, decide_eq_true_eq, Bool.not_eq_true'] at h1
    exact ⟨(g.ok x h2).1, ⟨x, h2, rfl, h1.1⟩, h1.2⟩
theorem scan_spec (d : List Bool) (l : List Ed) : ∀ (m : Nat) (i last nx ls : Int), 0 ≤ i → scanG d l m i last = (nx, ls) →
    (nx = -1 ∧ (∀ j, i ≤ j → j < i + m → rdOf false d j = false → 0 ≤ waitsG d l j) ∧ ((ls = last ∧ ∀ j, i ≤ j → j < i + m → rdOf false d j = true) ∨ (i ≤ ls ∧ ls < i + m ∧ rdOf false d ls = false)))
    ∨ (i ≤ nx ∧ nx < i + m ∧ rdOf false d nx = false ∧ waitsG d l nx < 0 ∧ ∀ j, i ≤ j → j < nx → rdOf false d j = false → 0 ≤ waitsG d l j)
  | 0, i, last, nx, ls, h0, h => by
    unfold scanG at h
    injection h with h1 h2
    left
    exact ⟨h1.symm, fun j _ _ => by omega, .inl ⟨h2.symm, fun j _ _ => by omega⟩⟩
  | m + 1, i, last, nx, ls, h0, h => by
    unfold scanG at h
    by_cases hd : rdOf false d i = true
    · rw [if_pos hd] at h
      rcases scan_spec d l m (i + 1) last nx ls (by omega) h with ⟨h1, h2, h3⟩ | ⟨h1, h2, h3, h4, h5⟩
      · left
        refine ⟨h1, fun j ha hb hc => ?_, ?_⟩
        · by_cases e : j = i
          · subst e; rw [hd] at hc; cases hc
          · exact h2 j (by omega) (by omega) hc
        · rcases h3 with ⟨h3, h4⟩ | ⟨h3, h4, h5⟩
          · refine .inl ⟨h3, fun j ha hb => ?_⟩
            by_cases e : j = i
            · subst e; exact hd
            · exact h4 j (by omega) (by omega)
          · exact .inr ⟨by omega, by omega, h5⟩
      · right
        refine ⟨by omega, by omega, h3, h4, fun j ha hb hc => ?_⟩
        by_cases e : j = i
        · subst e; rw [hd] at hc; cases hc
        · exact h5 j (by omega) (by omega) hc
    · rw [if_neg hd] at h
      have hd : rdOf false d i = false := Bool.eq_false_iff.2 hd
      by_cases hw : waitsG d l i < 0
      · rw [if_pos hw] at h
        injection h with h1 h2
        subst h1
        exact .inr ⟨by omega, by omega, hd, hw, fun j _ _ => by omega⟩
      · rw [if_neg hw] at h
        rcases scan_spec d l m (i + 1) i nx ls (by omega) h with ⟨h1, h2, h3⟩ | ⟨h1, h2, h3, h4, h5⟩
        · left
          refine ⟨h1, fun j ha hb hc => ?_, ?_⟩
          · by_cases e : j = i
            · subst e; omega
            · exact h2 j (by omega) (by omega) hc
          · rcases h3 with ⟨h3, h4⟩ | ⟨h3, h4, h5⟩
            · subst h3; exact .inr ⟨by omega, by omega, hd⟩
            · exact .inr ⟨by omega, by omega, h5⟩
        · right
          refine ⟨by omega, by omega, h3, h4, fun j ha hb hc => ?_⟩
          by_cases e : j = i
          · subst e; omega
          · exact h5 j (by omega) (by omega) hc

/-! ### Numbers in rows -/
theorem few {o : List Int} {n : Nat} (nd : o.Nodup) (h : ∀ j ∈ o, 0 ≤ j ∧ j < n) : o.length ≤ n := by
  have := List.Nodup.length_le_of_subset nd (l₂ := (List.range n).map (fun i : Nat => (i : Int))) (fun j hj => by
    obtain ⟨h0, h1⟩ := h j hj
    exact List.mem_map.2 ⟨j.toNat, List.mem_range.2 (by omega), by omega⟩)
  simpa using this
theorem all_in {o : List Int} {n : Nat} (nd : o.Nodup) (h : ∀ j ∈ o, 0 ≤ j ∧ j < n) (hl : o.length = n) {v : Int} (h0 : 0 ≤ v) (h1 : v < n) : v ∈ o := by
  refine Classical.byContradiction fun hv => ?_
  have := few (o := v :: o) (n := n) (List.nodup_cons.2 ⟨hv, nd⟩) (fun j hj => by
    rcases List.mem_cons.1 hj with rfl | hj
    · exact ⟨h0, h1⟩
    · exact h j hj)
  rw [List.length_cons] at this
  omega
theorem idxG_get {a : Int} : ∀ {l : List Int}, a ∈ l → l[idxG a l]? = some a
  | x :: r, h => by
    unfold idxG
    split
    · rename_i e; subst e; rfl
    · rename_i hx
      rcases List.mem_cons.1 h with e | h
      · exact absurd e hx
      · rw [List.getElem?_cons_succ]
        exact idxG_get h
theorem idxG_le {a : Int} : ∀ {l : List Int} {p : Nat}, l[p]? = some a → idxG a l ≤ p
  | [], p, h => by simp at h
  | x :: r, 0, h => by
    simp only [List.getElem?_cons_zero, Option.some.injEq] at h
    unfold idxG
    rw [if_pos h.symm]
    exact Nat.le_refl _
  | x :: r, p + 1, h => by
    rw [List.getElem?_cons_succ] at h
    unfold idxG
    split
    · omega
    · have := idxG_le h
      omega
theorem rd_set (d : List Bool) (i j : Int) (hi : 0 ≤ i) (hj : 0 ≤ j) (h : i < d.length) : rdOf false (d.set i.toNat true) j = (decide (i = j) || rdOf false d j) := by
  unfold rdOf
  rw [List.getD_eq_getElem?_getD, List.getD_eq_getElem?_getD, List.getElem?_set]
  by_cases e : i = j
  · subst e
    simp [show i.toNat < d.length by omega]
  · rw [if_neg (by omega)]
    simp [e]

/-! ### What stands in the order so far -/
structure OInv (n : Nat) (l : List Ed) (d : List Bool) (o : List Int) : Prop where
  len : d.length = 32
  nd : o.Nodup
  rng : ∀ j ∈ o, 0 ≤ j ∧ j < n
  mem : ∀ j : Int, 0 ≤ j → j < 32 → (rdOf false d j = true ↔ j ∈ o)
  top : ∀ u v : Int, Edge l u v → ∀ q : Nat, o[q]? = some v → ∃ p : Nat, p < q ∧ o[p]? = some u
theorem OInv.start {n : Nat} {l : List Ed} : OInv n l (List.replicate 32 false) [] := by
  refine ⟨by simp, List.nodup_nil, fun j hj => by simp at hj, fun j h0 h1 => ?_, fun u v _ q hq => by simp at hq⟩
  unfold rdOf
  rw [List.getD_eq_getElem?_getD, List.getElem?_replicate, if_pos (by omega)]
  simp
theorem OInv.step {n : Nat} {l : List Ed} {d : List Bool} {o : List Int} (g : Good n l) (I : OInv n l d o) {nx : Int} (h0 : 0 ≤ nx) (h1 : nx < n) (hd : rdOf false d nx = false) (hw : waitsG d l nx < 0) : OInv n l (d.set nx.toNat true) (o ++ [nx]) := by
  have hn := g.n32
  have hx : nx ∉ o := fun h => by
    have := (I.mem nx h0 (by omega)).2 h
    rw [hd] at this
    cases this
  refine ⟨by rw [List.length_set]; exact I.len, ?_, fun j hj => ?_, fun j a b => ?_, fun u v e q hq => ?_⟩
  · rw [List.nodup_append]
    refine ⟨I.nd, by simp, fun a ha b hb => ?_⟩
    rw [List.mem_singleton] at hb
    subst hb
    exact fun e => hx (e ▸ ha)
  · rcases List.mem_append.1 hj with hj | hj
    · exact I.rng j hj
    · rw [List.mem_singleton] at hj; subst hj; exact ⟨h0, h1⟩
  · rw [rd_set d nx j h0 a (by rw [I.len]; omega), List.mem_append, List.mem_singleton, Bool.or_eq_true, decide_eq_true_eq, I.mem j a b]
    constructor
    · rintro (rfl | h)
      · exact .inr rfl
      · exact .inl h
    · rintro (h | rfl)
      · exact .inr h
      · exact .inl rfl
  · by_cases hl : q < o.length
    · rw [List.getElem?_append_left hl] at hq
      obtain ⟨p, hp, hu⟩ := I.top u v e q hq
      exact ⟨p, hp, by rw [List.getElem?_append_left (by omega)]; exact hu⟩
    · have hq2 := (List.getElem?_eq_some_iff.1 hq).1
      rw [List.length_append, List.length_singleton] at hq2
      obtain rfl : q = o.length := by omega
      rw [List.getElem?_append_right (Nat.le_refl _), Nat.sub_self] at hq
      simp only [List.getElem?_cons_zero, Option.some.injEq] at hq
      subst hq
      have hdu : rdOf false d u = true := by
        rcases waits_cases g d nx with ⟨_, h⟩ | ⟨h, _⟩
        · exact h u e
        · omega
      have hr := g.edge e
      have hm := (I.mem u hr.1 (by omega)).1 hdu
      exact ⟨idxG u o, idxG_lt hm, by rw [List.getElem?_append_left (idxG_lt hm)]; exact idxG_get hm⟩

/-! ### Ranks, cycles -/
def Rank (l : List Ed) (r : Int → Nat) : Prop := ∀ u v, Edge l u v → r u < r v
theorem OInv.rank {n : Nat} {l : List Ed} {d : List Bool} {o : List Int} (g : Good n l) (I : OInv n l d o) (hl : o.length = n) : Rank l (fun u => idxG u o) := by
  intro u v e
  have hr := g.edge e
  have hv := all_in I.nd I.rng hl hr.2.2.1 hr.2.2.2
  obtain ⟨p, hp, hu⟩ := I.top u v e _ (idxG_get hv)
  exact Nat.lt_of_le_of_lt (idxG_le hu) hp
structure Cyc (n : Nat) (l : List Ed) (c : List Int) : Prop where
  pos : 0 < c.length
  nd : c.Nodup
  rng : ∀ j ∈ c, 0 ≤ j ∧ j < n
  edge : ∀ j, j < c.length → Edge l (c.getD j 0) (c.getD ((j + 1) % c.length) 0)
theorem Cyc.norank {n : Nat} {l : List Ed} {c : List Int} (h : Cyc n l c) (r : Int → Nat) : ¬ Rank l r := by
  intro hr
  have hc := h.pos
  have up : ∀ j, j < c.length → r (c.getD 0 0) + j ≤ r (c.getD j 0) := by
    intro j
    induction j with
    | zero => intro _; omega
    | succ j ih =>
      intro hj
      have h1 := ih (by omega)
      have h2 := hr _ _ (h.edge j (by omega))
      rw [Nat.mod_eq_of_lt hj] at h2
      omega
  have h1 := up (c.length - 1) (by omega)
  have h2 := hr _ _ (h.edge (c.length - 1) (by omega))
  rw [show c.length - 1 + 1 = c.length by omega, Nat.mod_self] at h2
  omega
theorem getD_drop_rev {l : List Int} {p j : Nat} (hp : p < l.length) (hj : j < l.length - p) : (l.drop p).reverse.getD j 0 = l.getD (l.length - 1 - j) 0 := by
  rw [List.getD_eq_getElem?_getD, List.getD_eq_getElem?_getD, List.getElem?_reverse (by rw [List.length_drop]; exact hj), List.getElem?_drop, List.length_drop]
  congr 2
  omega
theorem cyc_of {n : Nat} {l : List Ed} {acc : List Int} {i : Int} (nd : acc.Nodup) (rng : ∀ j ∈ acc, 0 ≤ j ∧ j < n) (hi : i ∈ acc)
    (ch : ∀ j, j + 1 < acc.length + 1 → Edge l ((acc ++ [i]).getD (j + 1) 0) ((acc ++ [i]).getD j 0)) : Cyc n l (acc.drop (idxG i acc)).reverse := by
  have hlt := idxG_lt hi
  have hget := idxG_get hi
  generalize idxG i acc = p at hlt hget
  have hlen : (acc.drop p).reverse.length = acc.length - p := by rw [List.length_reverse, List.length_drop]
  have hin : ∀ j, j < acc.length → (acc ++ [i]).getD j 0 = acc.getD j 0 := fun j hj => by
    rw [List.getD_eq_getElem?_getD, List.getElem?_append_left hj, ← List.getD_eq_getElem?_getD]
  have hlast : (acc ++ [i]).getD acc.length 0 = i := by
    rw [List.getD_eq_getElem?_getD, List.getElem?_append_right (Nat.le_refl _), Nat.sub_self]
    rfl
  refine ⟨by omega, ?_, fun j hj => rng j (List.mem_of_mem_drop (List.mem_reverse.1 hj)), fun j hj => ?_⟩
  · rw [List.Nodup, List.pairwise_reverse]
    exact List.Pairwise.imp (fun h e => h e.symm) (nd.sublist (List.drop_sublist p acc))
  · rw [hlen] at hj ⊢
    rw [getD_drop_rev hlt hj]
    by_cases he : j + 1 = acc.length - p
    · rw [he, Nat.mod_self, getD_drop_rev hlt (by omega)]
      have h := ch (acc.length - 1) (by omega)
      rw [show acc.length - 1 + 1 = acc.length by omega, hlast, hin _ (by omega)] at h
      have : acc.getD (acc.length - 1 - j) 0 = i := by
        rw [show acc.length - 1 - j = p by omega, List.getD_eq_getElem?_getD, hget]
        rfl
      rw [this]
      exact h
    · rw [Nat.mod_eq_of_lt (by omega), getD_drop_rev hlt (by omega)]
      have h := ch (acc.length - 1 - (j + 1)) (by omega)
      rw [show acc.length - 1 - (j + 1) + 1 = acc.length - 1 - j by omega, hin _ (by omega), hin _ (by omega)] at h
      exact h
theorem round_run {n : Nat} {l : List Ed} (g : Good n l) (d : List Bool) (hs : ∀ j : Int, 0 ≤ j → j < n → rdOf false d j = false → 0 ≤ waitsG d l j) :
    ∀ (m : Nat) (acc : List Int) (i : Int), acc.length + m = n → acc.Nodup → (∀ j ∈ acc, 0 ≤ j ∧ j < n) → 0 ≤ i → i < n → rdOf false d i = false →
      (∀ j, j + 1 < acc.length + 1 → Edge l ((acc ++ [i]).getD (j + 1) 0) ((acc ++ [i]).getD j 0)) → ∀ k, m + 1 ≤ k → ∃ c, roundG d l k acc i = some c ∧ Cyc n l c := by
  have hn := g.n32
  intro m
  induction m with
  | zero =>
    intro acc i hm nd rng i0 i1 hu ch k hk
    obtain ⟨k, rfl⟩ : ∃ k', k = k' + 1 := ⟨k - 1, by omega⟩
    have hi : i ∈ acc := all_in nd rng (by omega) i0 i1
    unfold roundG
    rw [if_pos (by omega), if_pos hi]
    exact ⟨_, rfl, cyc_of nd rng hi ch⟩
  | succ m ih =>
    intro acc i hm nd rng i0 i1 hu ch k hk
    obtain ⟨k, rfl⟩ : ∃ k', k = k' + 1 := ⟨k - 1, by omega⟩
    unfold roundG
    rw [if_pos (by omega)]
    by_cases hi : i ∈ acc
    · rw [if_pos hi]
      exact ⟨_, rfl, cyc_of nd rng hi ch⟩
    · rw [if_neg hi]
      have hw := hs i i0 i1 hu
      rcases waits_cases g d i with ⟨h, _⟩ | ⟨h0, he, hd⟩
      · omega
      · have hr := g.edge he
        refine ih (acc ++ [i]) _ (by rw [List.length_append, List.length_singleton]; omega) ?_ ?_ hr.1 hr.2.1 hd ?_ k (by omega)
        · rw [List.nodup_append]
          refine ⟨nd, by simp, fun a ha b hb => ?_⟩
          rw [List.mem_singleton] at hb
          subst hb
          exact fun e => hi (e ▸ ha)
        · intro j hj
          rcases List.mem_append.1 hj with hj | hj
          · exact rng j hj
          · rw [List.mem_singleton] at hj; subst hj; exact ⟨i0, i1⟩
        · intro j hj
          rw [List.length_append, List.length_singleton] at hj
          have hin : ∀ j, j < acc.length + 1 → ((acc ++ [i]) ++ [waitsG d l i]).getD j 0 = (acc ++ [i]).getD j 0 := fun j hj => by
            rw [List.getD_eq_getElem?_getD, List.getElem?_append_left (by rw [List.length_append, List.length_singleton]; exact hj), ← List.getD_eq_getElem?_getD]
          by_cases e : j = acc.length
          · subst e
            rw [hin acc.length (by omega)]
            have h1 : ((acc ++ [i]) ++ [waitsG d l i]).getD (acc.length + 1) 0 = waitsG d l i := by
              rw [List.getD_eq_getElem?_getD, List.getElem?_append_right (by rw [List.length_append, List.length_singleton]; exact Nat.le_refl _), List.length_append, List.length_singleton, Nat.sub_self]
              rfl
            have h2 : (acc ++ [i]).getD acc.length 0 = i := by
              rw [List.getD_eq_getElem?_getD, List.getElem?_append_right (Nat.le_refl _), Nat.sub_self]
              rfl
            rw [h1, h2]
            exact he
          · rw [hin (j + 1) (by omega), hin j (by omega)]
            exact ch j (by omega)
theorem order_run {n : Nat} {l : List Ed} (g : Good n l) : ∀ (m : Nat) (d : List Bool) (o : List Int), OInv n l d o → o.length + m = n →
    (∃ o' d', orderG n l (m + 40) d o = some (o', [], 0) ∧ OInv n l d' o' ∧ o'.length = n) ∨ (∃ c, orderG n l (m + 40) d o = some ([], c, 80) ∧ Cyc n l c) := by
  have hn := g.n32
  intro m
  induction m with
  | zero =>
    intro d o I hm
    left
    refine ⟨o, d, ?_, I, by omega⟩
    show orderG n l (39 + 1) d o = _
    unfold orderG
    rw [if_neg (by omega)]
  | succ m ih =>
    intro d o I hm
    rw [show m + 1 + 40 = (m + 40) + 1 by omega]
    unfold orderG
    rw [if_pos (by omega)]
    obtain ⟨nx, ls, hsc⟩ : ∃ nx ls, scanG d l n 0 (-1) = (nx, ls) := ⟨_, _, rfl⟩
    rw [hsc]
    dsimp only
    rcases scan_spec d l n 0 (-1) nx ls (by omega) hsc with ⟨h1, h2, h3⟩ | ⟨h1, h2, h3, h4, _⟩
    · rw [if_pos (by omega)]
      right
      rcases h3 with ⟨h3, h4⟩ | ⟨h3, h4, h5⟩
      · exfalso
        have h := List.Nodup.length_le_of_subset (l₁ := (List.range n).map (fun i : Nat => (i : Int))) (l₂ := o) (by
          rw [List.Nodup, List.pairwise_map]
          exact List.Pairwise.imp (fun h e => h (by omega)) (List.nodup_range (n := n))) (fun j hj => by
          obtain ⟨i, hi, rfl⟩ := List.mem_map.1 hj
          have hi := List.mem_range.1 hi
          exact (I.mem i (by omega) (by omega)).1 (h4 i (by omega) (by omega)))
        simp only [List.length_map, List.length_range] at h
        omega
      · obtain ⟨c, hc, hy⟩ := round_run g d (fun j a b => h2 j a (by omega)) n [] ls (by simp) List.nodup_nil (fun j hj => by simp at hj) h3 (by omega) h5 (fun j hj => by simp only [List.length_nil] at hj; omega) (m + 40) (by omega)
        exact ⟨c, by rw [hc]; rfl, hy⟩
    · rw [if_neg (by omega)]
      exact ih _ _ (I.step g h1 (by omega) h3 h4) (by rw [List.length_append, List.length_singleton]; omega)
end Go.Proofs.Ytkcfjnacnabdaaa.PG
