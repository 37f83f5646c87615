/- What is behind a number: the program's and the document's answers, and what they mean. -/
import Derived.Test.YtkcfjnacnabdaaaGraEv
import Derived.Test.YtkcfjnacnabdaaaPGx8
namespace Go.Proofs.Ytkcfjnacnabdaaa.PG
open Go.RowKit Go.Proofs.YtkcfjnacnabdaaaW.PrintWords Go.Proofs.YtkcfjnacnabdaaaW.PrintLast Go.Proofs.YtkcfjnacnabdaaaW.PrintMore

inductive Reach (l : List Ed) : Int → Int → Prop
  | one {u v : Int} (e : Edge l u v) : Reach l u v
  | more {u v w : Int} (h : Reach l u v) (e : Edge l v w) : Reach l u w
theorem Reach.rng {n : Nat} {l : List Ed} (g : Good n l) {u v : Int} (h : Reach l u v) : 0 ≤ v ∧ v < n := by
  cases h with
  | one e => exact (g.edge e).2.2
  | more _ e => exact (g.edge e).2.2
theorem Reach.rank {l : List Ed} {r : Int → Nat} (hr : Rank l r) {u v : Int} (h : Reach l u v) : r u < r v := by
  induction h with
  | one e => exact hr _ _ e
  | more _ e ih => exact Nat.lt_trans ih (hr _ _ e)
theorem Reach.trans {l : List Ed} {u v w : Int} (h : Reach l u v) (k : Reach l v w) : Reach l u w := by
  induction k with
  | one e => exact h.more e
  | more _ e ih => exact ih.more e
theorem Cyc.reach {n : Nat} {l : List Ed} {c : List Int} (h : Cyc n l c) : Reach l (c.getD 0 0) (c.getD 0 0) := by
  have hc := h.pos
  have up : ∀ j, j + 1 < c.length → Reach l (c.getD 0 0) (c.getD (j + 1) 0) := by
    intro j
    induction j with
    | zero =>
      intro hj
      have := h.edge 0 (by omega)
      rw [Nat.mod_eq_of_lt hj] at this
      exact .one this
    | succ j ih =>
      intro hj
      have h1 := ih (by omega)
      have h2 := h.edge (j + 1) (by omega)
      rw [Nat.mod_eq_of_lt hj] at h2
      exact h1.more h2
  have h2 := h.edge (c.length - 1) (by omega)
  rw [show c.length - 1 + 1 = c.length by omega, Nat.mod_self] at h2
  by_cases h1 : c.length = 1
  · rw [h1] at h2
    exact .one h2
  · have h3 := up (c.length - 2) (by omega)
    rw [show c.length - 2 + 1 = c.length - 1 by omega] at h3
    exact h3.more h2

/-! ### The program's search -/
theorem pushG_spec {n : Nat} (i : Int) : ∀ (L : List Ed) (d : List Bool) (t : List Int), n ≤ 32 → d.length = 32 → (∀ x ∈ L, 0 ≤ x.f1 ∧ x.f1 < n) →
    (pushG i L d t).1.length = 32 ∧ (∀ j, 0 ≤ j → (rdOf false (pushG i L d t).1 j = true ↔ rdOf false d j = true ∨ ∃ x ∈ L, x.f0 = i ∧ x.f1 = j)) ∧
    (∀ v, v ∈ t → v ∈ (pushG i L d t).2) ∧ (∀ v, v ∈ (pushG i L d t).2 → v ∈ t ∨ (0 ≤ v ∧ rdOf false (pushG i L d t).1 v = true)) ∧
    (∀ v, 0 ≤ v → rdOf false (pushG i L d t).1 v = true → rdOf false d v = true ∨ v ∈ (pushG i L d t).2) ∧
    (pushG i L d t).2.length + freeN (pushG i L d t).1 = t.length + freeN d
  | [], d, t, hn, hd, _ => by
    rw [pushG]
    exact ⟨hd, fun j _ => by simp, fun v h => h, fun v h => .inl h, fun v _ h => .inl h, rfl⟩
  | x :: L, d, t, hn, hd, hx => by
    have hx1 := hx x (by simp)
    have hL : ∀ y ∈ L, 0 ≤ y.f1 ∧ y.f1 < n := fun y hy => hx y (by simp [hy])
    rw [pushG]
    by_cases hi : x.f0 = i
    · rw [if_pos hi]
      by_cases hs : rdOf false d x.f1 = true
      · rw [if_pos hs]
        obtain ⟨a, b, c, e, f, m⟩ := pushG_spec i L d t hn hd hL
        refine ⟨a, fun j hj => ?_, c, e, f, m⟩
        rw [b j hj]
        constructor
        · rintro (h | ⟨y, hy, h⟩)
          · exact .inl h
          · exact .inr ⟨y, by simp [hy], h⟩
        · rintro (h | ⟨y, hy, h0, h1⟩)
          · exact .inl h
          · rcases List.mem_cons.1 hy with rfl | hy
            · subst h1; exact .inl hs
            · exact .inr ⟨y, hy, h0, h1⟩
      · rw [if_neg hs]
        have hf := freeN_set d x.f1.toNat (by omega) (by unfold rdOf at hs; exact Bool.eq_false_iff.2 hs)
        obtain ⟨a, b, c, e, f, m⟩ := pushG_spec i L (d.set x.f1.toNat true) (t ++ [x.f1]) hn (by rw [List.length_set]; exact hd) hL
        have hr := fun j hj => rd_set d x.f1 j hx1.1 hj (by omega)
        refine ⟨a, fun j hj => ?_, fun v h => c v (by simp [h]), fun v h => ?_, fun v h0 h => ?_, ?_⟩
        · rw [b j hj, hr j hj, Bool.or_eq_true, decide_eq_true_eq]
          constructor
          · rintro ((h | h) | ⟨y, hy, h⟩)
            · exact .inr ⟨x, by simp, hi, h⟩
            · exact .inl h
            · exact .inr ⟨y, by simp [hy], h⟩
          · rintro (h | ⟨y, hy, h0, h1⟩)
            · exact .inl (.inr h)
            · rcases List.mem_cons.1 hy with rfl | hy
              · exact .inl (.inl h1)
              · exact .inr ⟨y, hy, h0, h1⟩
        · rcases e v h with h | h
          · rcases List.mem_append.1 h with h | h
            · exact .inl h
            · rw [List.mem_singleton] at h
              subst h
              refine .inr ⟨hx1.1, (b _ hx1.1).2 (.inl ?_)⟩
              rw [hr _ hx1.1, decide_eq_true rfl, Bool.true_or]
          · exact .inr h
        · rcases f v h0 h with h | h
          · rw [hr v h0, Bool.or_eq_true, decide_eq_true_eq] at h
            rcases h with h | h
            · subst h; exact .inr (c _ (by simp))
            · exact .inl h
          · exact .inr h
        · rw [m, List.length_append, List.length_singleton]
          omega
    · rw [if_neg hi]
      obtain ⟨a, b, c, e, f, m⟩ := pushG_spec i L d t hn hd hL
      refine ⟨a, fun j hj => ?_, c, e, f, m⟩
      rw [b j hj]
      constructor
      · rintro (h | ⟨y, hy, h⟩)
        · exact .inl h
        · exact .inr ⟨y, by simp [hy], h⟩
      · rintro (h | ⟨y, hy, h0, h1⟩)
        · exact .inl h
        · rcases List.mem_cons.1 hy with rfl | hy
          · exact absurd h0 hi
          · exact .inr ⟨y, hy, h0, h1⟩
structure BInv (l : List Ed) (s : Int) (d : List Bool) (t : List Int) : Prop where
  len : d.length = 32
  sound : ∀ j, 0 ≤ j → rdOf false d j = true → Reach l s j
  queue : ∀ i ∈ t, i = s ∨ (0 ≤ i ∧ rdOf false d i = true)
  close : ∀ u, 0 ≤ u → (u = s ∨ rdOf false d u = true) → u ∈ t ∨ ∀ x ∈ l, x.f0 = u → rdOf false d x.f1 = true
theorem beh_run {n : Nat} {l : List Ed} (g : Good n l) (s : Int) : ∀ (m : Nat) (t : List Int) (d : List Bool), BInv l s d t → t.length + freeN d ≤ m → ∃ d', behG l (m + 1) t d = some d' ∧ BInv l s d' [] := by
  intro m
  induction m with
  | zero =>
    intro t d I h
    match t, I, h with
    | [], I, h => exact ⟨d, rfl, I⟩
    | i :: t, I, h => rw [List.length_cons] at h; omega
  | succ m ih =>
    intro t d I h
    match t, I, h with
    | [], I, h => exact ⟨d, rfl, I⟩
    | i :: t, I, h =>
      rw [behG]
      obtain ⟨a, b, c, e, f, mm⟩ := pushG_spec (n := n) i l d t g.n32 I.len (fun x hx => (g.ok x hx).2.2)
      rw [List.length_cons] at h
      refine ih _ _ ⟨a, fun j hj hr => ?_, fun v hv => ?_, fun u hu hs => ?_⟩ (by omega)
      · rcases (b j hj).1 hr with h1 | ⟨x, hx, h0, h1⟩
        · exact I.sound j hj h1
        · rcases I.queue i (by simp) with hi | ⟨hi0, hi⟩
          · exact .one ⟨x, hx, by rw [h0, hi], h1⟩
          · exact (I.sound i hi0 hi).more ⟨x, hx, h0, h1⟩
      · rcases e v hv with h1 | h1
        · rcases I.queue v (by simp [h1]) with h2 | ⟨h20, h2⟩
          · exact .inl h2
          · exact .inr ⟨h20, (b v h20).2 (.inl h2)⟩
        · exact .inr h1
      · by_cases hui : u = i
        · subst hui
          exact .inr (fun x hx h0 => (b _ (g.ok x hx).2.2.1).2 (.inr ⟨x, hx, h0, rfl⟩))
        · have old : (u = s ∨ rdOf false d u = true) → u ∈ (pushG i l d t).2 ∨ ∀ x ∈ l, x.f0 = u → rdOf false (pushG i l d t).1 x.f1 = true := fun h1 => by
            rcases I.close u hu h1 with h2 | h2
            · rcases List.mem_cons.1 h2 with h2 | h2
              · exact absurd h2 hui
              · exact .inl (c u h2)
            · exact .inr (fun x hx h0 => (b _ (g.ok x hx).2.2.1).2 (.inl (h2 x hx h0)))
          rcases hs with hs | hs
          · exact old (.inl hs)
          · rcases f u hu hs with h1 | h1
            · exact old (.inr h1)
            · exact .inl h1
theorem BInv.iff {n : Nat} {l : List Ed} (g : Good n l) {s : Int} (h0 : 0 ≤ s) {d : List Bool} (I : BInv l s d []) (j : Int) (hj : 0 ≤ j) : rdOf false d j = true ↔ Reach l s j := by
  constructor
  · exact I.sound j hj
  · intro h
    induction h with
    | one e =>
      obtain ⟨x, hx, e0, e1⟩ := e
      rcases I.close _ h0 (.inl rfl) with h2 | h2
      · simp at h2
      · rw [← e1]; exact h2 x hx e0
    | more hr e ih =>
      have hv := (Reach.rng g hr).1
      obtain ⟨x, hx, e0, e1⟩ := e
      rcases I.close _ hv (.inr (ih hv)) with h2 | h2
      · simp at h2
      · rw [← e1]; exact h2 x hx e0
theorem mem_outG (d : List Bool) (n : Nat) (v : Int) : v ∈ outG d n ↔ 0 ≤ v ∧ v < n ∧ rdOf false d v = true := by
  unfold outG
  rw [List.mem_map]
  constructor
  · rintro ⟨i, hi, rfl⟩
    rw [List.mem_filter, List.mem_range] at hi
    exact ⟨by omega, by omega, hi.2⟩
  · rintro ⟨h0, h1, h2⟩
    refine ⟨v.toNat, ?_, by omega⟩
    rw [List.mem_filter, List.mem_range]
    exact ⟨by omega, by rw [show ((v.toNat : Nat) : Int) = v by omega]; exact h2⟩
theorem outG_ext (d s : List Bool) : ∀ n : Nat, (∀ i : Nat, i < n → rdOf false d (i : Int) = rdOf false s (i : Int)) → outG d n = outG s n
  | 0, _ => rfl
  | n + 1, h => by
    rw [outG_succ, outG_succ, outG_ext d s n (fun i hi => h i (by omega)), h n (by omega)]
theorem outG_cut (d : List Bool) (n : Nat) : ∀ m : Nat, (∀ i : Nat, n ≤ i → rdOf false d (i : Int) = false) → outG d (n + m) = outG d n
  | 0, _ => rfl
  | m + 1, h => by
    rw [← Nat.add_assoc, outG_succ, outG_cut d n m h, h (n + m) (by omega), if_neg (by decide), List.append_nil]
/-- What is behind a number, where it is one. -/
theorem behind_all {n : Nat} {l : List Ed} (g : Good n l) (hb : graph_bad.f (n : Int) l = some false) (s : Int) (h0 : 0 ≤ s) (h1 : s < n) :
    ∃ d : List Bool, Ev (fun k => graph_Behind.f k (n : Int) l s) (outG d n) ∧ ∀ j, 0 ≤ j → (rdOf false d j = true ↔ Reach l s j) := by
  have hn := g.n32
  obtain ⟨d, hd, I⟩ := beh_run g s 33 [s] (List.replicate 32 false) ⟨by simp, fun j hj h => by
    unfold rdOf at h
    rw [List.getD_eq_getElem?_getD, List.getElem?_replicate] at h
    split at h <;> simp at h, fun i hi => by rw [List.mem_singleton] at hi; exact .inl hi, fun u hu h => by
    rcases h with h | h
    · exact .inl (by rw [h]; simp)
    · unfold rdOf at h
      rw [List.getD_eq_getElem?_getD, List.getElem?_replicate] at h
      split at h <;> simp at h⟩ (by show 1 + freeN (List.replicate 32 false) ≤ 33; decide)
  have iff := BInv.iff g h0 I
  refine ⟨d, ?_, iff⟩
  have hcut : outG d 32 = outG d n := by
    have := outG_cut d n (32 - n) (fun i hi => by
      refine Bool.eq_false_iff.2 fun h => ?_
      have := (Reach.rng g ((iff i (by omega)).1 h)).2
      omega)
    rwa [show n + (32 - n) = 32 by omega] at this
  refine Ev.of (graph_Behind.mono _ _ _) (k := 34) ?_
  unfold graph_Behind.f
  rw [hb, Option.bind_some, if_neg (by decide), if_neg (by omega), if_neg (by omega), hd, Option.bind_some, hcut]

/-! ### The document's search -/
def sweepG (s : Int) : List Ed → List Bool → List Bool
  | [], d => d
  | x :: r, d => sweepG s r (if x.f0 = s ∨ rdOf false d x.f0 = true then d.set x.f1.toNat true else d)
theorem set_same (d : List Bool) (i : Nat) (h : d.getD i false = true) : d.set i true = d := by
  apply List.ext_getElem?
  intro j
  rw [List.getElem?_set]
  by_cases e : i = j
  · subst e
    rw [List.getD_eq_getElem?_getD] at h
    rw [if_pos rfl]
    cases hd : d[i]? with
    | none => rw [hd] at h; simp at h
    | some b =>
      rw [hd] at h
      have hb : b = true := h
      subst hb
      rw [if_pos (List.getElem?_eq_some_iff.1 hd).1]
  · rw [if_neg e]
theorem sweep_spec {n : Nat} (s : Int) : ∀ (L : List Ed) (d : List Bool), d.length = n → (∀ x ∈ L, 0 ≤ x.f0 ∧ 0 ≤ x.f1 ∧ x.f1 < n) →
    (sweepG s L d).length = n ∧ freeN (sweepG s L d) ≤ freeN d ∧
    ((sweepG s L d = d ∧ ∀ x ∈ L, (x.f0 = s ∨ rdOf false d x.f0 = true) → rdOf false d x.f1 = true) ∨ freeN (sweepG s L d) < freeN d)
  | [], d, hd, _ => ⟨hd, Nat.le_refl _, .inl ⟨rfl, fun x hx => by simp at hx⟩⟩
  | x :: L, d, hd, hx => by
    have hx1 := hx x (by simp)
    have hL : ∀ y ∈ L, 0 ≤ y.f0 ∧ 0 ≤ y.f1 ∧ y.f1 < n := fun y hy => hx y (by simp [hy])
    rw [sweepG]
    by_cases hc : x.f0 = s ∨ rdOf false d x.f0 = true
    · rw [if_pos hc]
      by_cases hs : rdOf false d x.f1 = true
      · rw [set_same d _ hs]
        obtain ⟨a, b, c⟩ := sweep_spec s L d hd hL
        refine ⟨a, b, ?_⟩
        rcases c with ⟨c1, c2⟩ | c
        · refine .inl ⟨c1, fun y hy h => ?_⟩
          rcases List.mem_cons.1 hy with rfl | hy
          · exact hs
          · exact c2 y hy h
        · exact .inr c
      · have hf := freeN_set d x.f1.toNat (by omega) (by unfold rdOf at hs; exact Bool.eq_false_iff.2 hs)
        obtain ⟨a, b, _⟩ := sweep_spec s L (d.set x.f1.toNat true) (by rw [List.length_set]; exact hd) hL
        exact ⟨a, by omega, .inr (by omega)⟩
    · rw [if_neg hc]
      obtain ⟨a, b, c⟩ := sweep_spec s L d hd hL
      refine ⟨a, b, ?_⟩
      rcases c with ⟨c1, c2⟩ | c
      · refine .inl ⟨c1, fun y hy h => ?_⟩
        rcases List.mem_cons.1 hy with rfl | hy
        · exact absurd h hc
        · exact c2 y hy h
      · exact .inr c
theorem sweep_sound {n : Nat} {l : List Ed} (g : Good n l) (s : Int) : ∀ (L : List Ed) (d : List Bool), (∀ x ∈ L, x ∈ l) → d.length = n → (∀ j, 0 ≤ j → rdOf false d j = true → Reach l s j) → ∀ j, 0 ≤ j → rdOf false (sweepG s L d) j = true → Reach l s j
  | [], d, _, _, h => h
  | x :: L, d, hs, hd, h => by
    rw [sweepG]
    have hx := g.ok x (hs x (by simp))
    refine sweep_sound g s L _ (fun y hy => hs y (by simp [hy])) (by split <;> simp [hd]) ?_
    intro j hj
    split
    · rename_i hc
      rw [rd_set d x.f1 j hx.2.2.1 hj (by omega), Bool.or_eq_true, decide_eq_true_eq]
      rintro (e | e)
      · subst e
        rcases hc with hc | hc
        · exact .one ⟨x, hs x (by simp), hc, rfl⟩
        · exact (h _ hx.1 hc).more ⟨x, hs x (by simp), rfl, rfl⟩
      · exact h j hj e
    · exact h j hj
def sweeps (s : Int) (l : List Ed) : Nat → List Bool → List Bool
  | 0, d => d
  | m + 1, d => sweeps s l m (sweepG s l d)
theorem sweeps_spec {n : Nat} {l : List Ed} (g : Good n l) (s : Int) : ∀ (m : Nat) (d : List Bool), d.length = n → (∀ j, 0 ≤ j → rdOf false d j = true → Reach l s j) → freeN d < m →
    (sweeps s l m d).length = n ∧ (∀ j, 0 ≤ j → rdOf false (sweeps s l m d) j = true → Reach l s j) ∧ ∀ x ∈ l, (x.f0 = s ∨ rdOf false (sweeps s l m d) x.f0 = true) → rdOf false (sweeps s l m d) x.f1 = true
  | 0, d, _, _, h => by omega
  | m + 1, d, hd, hs, h => by
    rw [sweeps]
    obtain ⟨a, b, c⟩ := sweep_spec (n := n) s l d hd (fun x hx => by have := g.ok x hx; omega)
    have hs2 := sweep_sound g s l d (fun x hx => hx) hd hs
    rcases c with ⟨c1, c2⟩ | c
    · rw [c1]
      have hfix : ∀ m, sweeps s l m d = d := fun m => by
        induction m with
        | zero => rfl
        | succ m ih => rw [sweeps, c1, ih]
      rw [hfix]
      exact ⟨hd, hs, c2⟩
    · exact sweeps_spec g s m _ a hs2 (by omega)
theorem sweeps_iff {n : Nat} {l : List Ed} (g : Good n l) (s : Int) (h0 : 0 ≤ s) (j : Int) (hj : 0 ≤ j) : rdOf false (sweeps s l (n + 1) (List.replicate n false)) j = true ↔ Reach l s j := by
  have hf : ∀ n : Nat, freeN (List.replicate n false) = n := fun n => by
    unfold freeN
    rw [List.countP_replicate]
    simp
  obtain ⟨_, a, b⟩ := sweeps_spec g s (n + 1) (List.replicate n false) (by simp) (fun j hj h => by
    unfold rdOf at h
    rw [List.getD_eq_getElem?_getD, List.getElem?_replicate] at h
    split at h <;> simp at h) (by rw [hf]; omega)
  constructor
  · exact a j hj
  · intro h
    induction h with
    | one e => obtain ⟨x, hx, e0, e1⟩ := e; rw [← e1]; exact b x hx (.inl e0)
    | more hr e ih => obtain ⟨x, hx, e0, e1⟩ := e; rw [← e1]; exact b x hx (.inr (by rw [e0]; exact ih (Reach.rng g hr).1))

/-! ### .. as the printed function has it -/
theorem ev_ref_b2 (n : Nat) (hn : n ≤ 32) (d : List Bool) (hd : d.length = n) : ∀ (m i : Nat), i + m = n → Ev (fun k => majordomoref08_Behind.l2 k n d (outG d i) (i : Int)) (outG d n) := by
  intro m
  induction m with
  | zero =>
    intro i hi
    refine Ev.step (f := fun _ => some (outG d n)) (fun k => ?_) (Ev.now _)
    simp only [majordomoref08_Behind.l2]
    rw [if_neg (by omega), show i = n by omega]
  | succ m ih =>
    intro i hi
    have h := ih (i + 1) (by omega)
    have hle := outG_le d i
    rw [outG_succ] at h
    refine Ev.step (fun k => ?_) h
    simp only [majordomoref08_Behind.l2]
    rw [if_pos (by omega), if_pos (by omega), if_pos (by omega), wv _ ((i + 1 : Nat) : Int) (by omega) (by omega) (by omega)]
    split
    · rw [if_pos (by omega)]
    · rw [List.append_nil]
theorem ev_ref_b1 {n : Nat} {l : List Ed} (g : Good n l) (hl : l.length ≤ 9223372036854775807) (s : Int) (turn : Int) (r : List Int) : ∀ (m kk : Nat) (d : List Bool), kk + m = l.length → d.length = n →
    Ev (fun k => majordomoref08_Behind.l0 k n l s (sweepG s (l.drop kk) d) (wrap64 (turn + 1))) r → Ev (fun k => majordomoref08_Behind.l1 k n l s d turn (kk : Int)) r := by
  intro m
  induction m with
  | zero =>
    intro kk d hk hd h
    rw [List.drop_eq_nil_of_le (by omega), sweepG] at h
    refine Ev.step (fun k => ?_) h
    simp only [majordomoref08_Behind.l1]
    rw [if_neg (by omega)]
  | succ m ih =>
    intro kk d hk hd h
    have hlt : kk < l.length := by omega
    rw [List.drop_eq_getElem_cons hlt, ← rd_get hlt, sweepG] at h
    have hx := g.ok (rd_T32 l (kk : Int)) (by rw [rd_get hlt]; exact List.getElem_mem hlt)
    refine Ev.step (fun k => ?_) (ih (kk + 1) _ (by omega) (by split <;> simp [hd]) h)
    simp only [majordomoref08_Behind.l1]
    rw [if_pos (by omega), if_pos (by omega), wv _ ((kk + 1 : Nat) : Int) (by omega) (by omega) (by omega)]
    generalize rd_T32 l (kk : Int) = x at hx
    by_cases e : x.f0 = s
    · rw [if_pos e, if_pos (by omega), if_pos (by omega), if_pos (.inl e)]
    · rw [if_neg e, if_pos (by omega), if_pos (by omega)]
      by_cases e2 : rdOf false d x.f0 = true
      · rw [if_pos e2, if_pos (by omega), if_pos (by omega), if_pos (.inr e2)]
      · rw [if_neg e2, if_neg (by simp [e, e2])]
theorem ev_ref_b0 {n : Nat} {l : List Ed} (g : Good n l) (hl : l.length ≤ 9223372036854775807) (s : Int) : ∀ (m i : Nat) (d : List Bool), i + m = n + 1 → d.length = n → Ev (fun k => majordomoref08_Behind.l0 k n l s d (i : Int)) (outG (sweeps s l m d) n) := by
  have hn := g.n32
  intro m
  induction m with
  | zero =>
    intro i d hi hd
    rw [sweeps]
    refine Ev.step (fun k => ?_) (ev_ref_b2 n hn d hd n 0 (by omega))
    simp only [majordomoref08_Behind.l0]
    rw [if_neg (by omega)]
    rfl
  | succ m ih =>
    intro i d hi hd
    rw [sweeps]
    obtain ⟨a, _, _⟩ := sweep_spec (n := n) s l d hd (fun x hx => by have := g.ok x hx; omega)
    have h := ih (i + 1) (sweepG s l d) (by omega) a
    refine Ev.step (fun k => ?_) (ev_ref_b1 g hl s (i : Int) _ l.length 0 d (by omega) hd (by
      rw [List.drop_zero, wv _ ((i + 1 : Nat) : Int) (by omega) (by omega) (by omega)]
      exact h))
    simp only [majordomoref08_Behind.l0]
    rw [if_pos (by omega)]
    rfl
/-- Both answer alike. -/
theorem ev_behinds (n : Int) (l : List Ed) (hl : l.length ≤ 9223372036854775807) (s : Int) : ∃ r : List Int, Ev (fun k => graph_Behind.f k n l s) r ∧ Ev (fun k => majordomoref08_Behind.f k n l s) r ∧ r.length ≤ 32 ∧ (graph_bad.f n l = some true → r = []) := by
  have j0 : Ev (fun k => majordomoref08_Behind.j0 k n l s true) [] :=
    Ev.step (f := fun _ => some []) (fun k => by simp only [majordomoref08_Behind.j0]; rw [if_pos trivial]) (Ev.now _)
  rcases bad_total n l hl with hb | ⟨hb, m, rfl, g⟩
  · refine ⟨[], Ev.congr (f := fun _ => some []) (fun k => by unfold graph_Behind.f; rw [hb]; rfl) (Ev.now _), ?_, by simp, fun _ => rfl⟩
    unfold majordomoref08_Behind.f
    exact Ev.bind (ev_refBad n l true hb) (Ev.congr (fun k => by rw [if_pos rfl]) j0)
  · have hn := g.n32
    by_cases h0 : s < 0
    · refine ⟨[], Ev.congr (f := fun _ => some []) (fun k => by unfold graph_Behind.f; rw [hb, Option.bind_some, if_neg (by decide), if_pos h0]) (Ev.now _), ?_, by simp, fun _ => rfl⟩
      unfold majordomoref08_Behind.f
      exact Ev.bind (ev_refBad m l false hb) (Ev.congr (fun k => by rw [if_neg (by decide), if_pos h0]) j0)
    · by_cases h1 : s ≥ m
      · refine ⟨[], Ev.congr (f := fun _ => some []) (fun k => by unfold graph_Behind.f; rw [hb, Option.bind_some, if_neg (by decide), if_neg h0, if_pos h1]) (Ev.now _), ?_, by simp, fun _ => rfl⟩
        unfold majordomoref08_Behind.f
        exact Ev.bind (ev_refBad m l false hb) (Ev.congr (fun k => by rw [if_neg (by decide), if_neg h0, decide_eq_true h1]) j0)
      · obtain ⟨d, hd, iff⟩ := behind_all g hb s (by omega) (by omega)
        have hle := outG_le d m
        refine ⟨outG d m, hd, ?_, by omega, fun h => by rw [hb] at h; cases h⟩
        have he : outG d m = outG (sweeps s l (m + 1) (List.replicate m false)) m := outG_ext _ _ m (fun i _ => by
          rw [Bool.eq_iff_iff, iff i (by omega), sweeps_iff g s (by omega) i (by omega)])
        unfold majordomoref08_Behind.f
        refine Ev.bind (ev_refBad m l false hb) (Ev.congr (f := fun k => majordomoref08_Behind.j0 k m l s false) (fun k => by rw [if_neg (by decide), if_neg h0, decide_eq_false h1]) ?_)
        rw [he]
        refine Ev.step (fun k => ?_) (ev_ref_b0 g hl s (m + 1) 0 (List.replicate m false) (by omega) (by simp))
        simp only [majordomoref08_Behind.j0]
        rw [if_neg (by decide), if_pos (by omega), if_pos (by omega), Int.toNat_natCast]
        rfl
end Go.Proofs.Ytkcfjnacnabdaaa.PG
