/- The order of a graph: the program's and the document's functions answer alike; in an order each edge goes ahead. -/
import Derived.Test.YtkcfjnacnabdaaaGraSpec
import Derived.Test.YtkcfjnacnabdaaaPGx5
namespace Go.Proofs.Ytkcfjnacnabdaaa.PG
open Go.RowKit Go.Proofs.YtkcfjnacnabdaaaW.PrintWords Go.Proofs.YtkcfjnacnabdaaaW.PrintLast Go.Proofs.YtkcfjnacnabdaaaW.PrintMore

theorem wv (a b : Int) (e : a = b) (h0 : -9223372036854775808 ≤ b) (h1 : b ≤ 9223372036854775807) : wrap64 a = b := by
  subst e
  unfold wrap64
  omega
theorem ev_shown : Ev (fun k => majordomolaw08_shown.f k) true := by
  refine Ev.of (majordomolaw08_shown.mono) (k := 60) ?_
  decide +kernel
theorem ev_ints_l0 (a : List Int) (ha : a.length ≤ 4611686018427387904) : ∀ (d i : Nat), i + d = a.length → Ev (fun k => majordomolaw08_ints.l0 k a a (i : Int)) true := by
  intro d
  induction d with
  | zero =>
    intro i hi
    refine Ev.step (f := fun _ => some true) (fun k => ?_) (Ev.now _)
    simp only [majordomolaw08_ints.l0]
    rw [if_neg (by omega)]
  | succ d ih =>
    intro i hi
    refine Ev.step (fun k => ?_) (ih (i + 1) (by omega))
    simp only [majordomolaw08_ints.l0]
    rw [if_pos (by omega), if_pos (by omega), if_pos (by omega), if_pos trivial, wv _ ((i + 1 : Nat) : Int) (by omega) (by omega) (by omega)]
theorem ev_ints (a : List Int) (ha : a.length ≤ 4611686018427387904) : Ev (fun k => majordomolaw08_ints.f k a a) true := by
  refine Ev.congr (fun k => ?_) (ev_ints_l0 a ha a.length 0 (by omega))
  unfold majordomolaw08_ints.f
  rw [if_pos rfl]
  rfl

/-! ### For want of numbers -/
theorem ev_refBad_l0 (n : Int) (l : List Ed) (hl : l.length ≤ 9223372036854775807) : ∀ (d i : Nat), i + d = l.length → Ev (fun k => majordomoref08_bad.l0 k n l (i : Int)) ((l.drop i).any (edgeBad n)) := by
  intro d
  induction d with
  | zero =>
    intro i hi
    refine Ev.step (f := fun _ => some false) (fun k => ?_) ?_
    · simp only [majordomoref08_bad.l0]
      rw [if_neg (by omega)]
    · rw [List.drop_eq_nil_of_le (by omega)]
      exact Ev.now _
  | succ d ih =>
    intro i hi
    have hlt : i < l.length := by omega
    have h := ih (i + 1) (by omega)
    rw [List.drop_eq_getElem_cons hlt, List.any_cons, ← rd_get hlt]
    have hx : ∀ k, majordomoref08_bad.l0 (k + 1) n l (i : Int) = if edgeBad n (rd_T32 l (i : Int)) = true then some true else majordomoref08_bad.l0 k n l ((i + 1 : Nat) : Int) := by
      intro k
      simp only [majordomoref08_bad.l0]
      rw [if_pos (by omega), if_pos (by omega), wv _ ((i + 1 : Nat) : Int) (by omega) (by omega) (by omega)]
      unfold edgeBad
      generalize rd_T32 l (i : Int) = x
      by_cases h1 : x.f0 < 0
      · simp [h1]
      · by_cases h2 : x.f0 ≥ n
        · simp [h2]
        · by_cases h3 : x.f1 < 0
          · simp [h3]
          · by_cases h4 : x.f1 ≥ n
            · simp [h4]
            · rw [if_neg h1, if_neg h2, if_neg h3, if_neg h4, if_neg]
              simp only [Bool.or_eq_true, decide_eq_true_eq]
              omega
    cases hb : edgeBad n (rd_T32 l (i : Int)) with
    | true =>
      rw [Bool.true_or]
      exact Ev.step (f := fun _ => some true) (fun k => by rw [hx k, hb, if_pos rfl]) (Ev.now _)
    | false =>
      rw [Bool.false_or]
      exact Ev.step (fun k => by rw [hx k, hb, if_neg (by decide)]) h
theorem ev_refBad (n : Int) (l : List Ed) (b : Bool) (h : graph_bad.f n l = some b) : Ev (fun k => majordomoref08_bad.f k n l) b := by
  unfold graph_bad.f at h
  by_cases h0 : n < 0
  · rw [if_pos h0] at h
    obtain rfl := Option.some.inj h
    refine Ev.congr (f := fun k => majordomoref08_bad.j0 k n l true) (fun k => by unfold majordomoref08_bad.f; rw [if_pos h0]) ?_
    exact Ev.step (f := fun _ => some true) (fun k => by simp only [majordomoref08_bad.j0]; rw [if_pos trivial]) (Ev.now _)
  · rw [if_neg h0] at h
    by_cases h1 : n > 32
    · rw [if_pos h1] at h
      obtain rfl := Option.some.inj h
      refine Ev.congr (f := fun k => majordomoref08_bad.j0 k n l true) (fun k => by unfold majordomoref08_bad.f; rw [if_neg h0, decide_eq_true h1]) ?_
      exact Ev.step (f := fun _ => some true) (fun k => by simp only [majordomoref08_bad.j0]; rw [if_pos trivial]) (Ev.now _)
    · rw [if_neg h1] at h
      split at h
      · rename_i hl
        obtain rfl := Option.some.inj h
        refine Ev.congr (f := fun k => majordomoref08_bad.j0 k n l false) (fun k => by unfold majordomoref08_bad.f; rw [if_neg h0, decide_eq_false h1]) ?_
        refine Ev.step (fun k => ?_) (ev_refBad_l0 n l hl l.length 0 (by omega))
        simp only [majordomoref08_bad.j0]
        rw [if_neg (by decide)]
        rfl
      · cases h
theorem bad_total (n : Int) (l : List Ed) (hl : l.length ≤ 9223372036854775807) : (graph_bad.f n l = some true) ∨ (graph_bad.f n l = some false ∧ ∃ m : Nat, n = m ∧ Good m l) := by
  cases h : graph_bad.f n l with
  | none =>
    unfold graph_bad.f at h
    rw [if_pos hl] at h
    split at h
    · cases h
    · split at h <;> cases h
  | some b =>
    cases b with
    | true => exact .inl rfl
    | false =>
      obtain ⟨h0, h1, h2, h3⟩ := bad_false h
      exact .inr ⟨rfl, n.toNat, by omega, by omega, fun x hx => by have := h3 x hx; omega⟩

/-! ### The program's order -/
/-- What Order answers: the numbers are bad; an order; a cycle. -/
inductive Ans (n : Int) (l : List Ed) : List Int × List Int × Int → Prop
  | bad (h : graph_bad.f n l = some true) : Ans n l ([], [], 1)
  | ok (m : Nat) (hm : n = m) (h : graph_bad.f n l = some false) (g : Good m l) (o : List Int) (d : List Bool) (I : OInv m l d o) (hl : o.length = m) : Ans n l (o, [], 0)
  | cyc (m : Nat) (hm : n = m) (h : graph_bad.f n l = some false) (g : Good m l) (c : List Int) (hc : Cyc m l c) : Ans n l ([], c, 80)
theorem order_all (n : Int) (l : List Ed) (hl : l.length ≤ 9223372036854775807) : ∃ res, Ev (fun k => graph_Order.f k n l) res ∧ Ans n l res := by
  rcases bad_total n l hl with h | ⟨h, m, rfl, g⟩
  · exact ⟨_, Ev.congr (f := fun _ => some ([], [], 1)) (fun k => by unfold graph_Order.f; rw [h]; rfl) (Ev.now _), .bad h⟩
  · have hf : ∀ k, graph_Order.f k (m : Int) l = orderG m l k (List.replicate 32 false) [] := fun k => by
      unfold graph_Order.f
      rw [h, Option.bind_some, if_neg (by decide), Int.toNat_natCast]
    rcases order_run g m _ _ OInv.start (by simp) with ⟨o, d, h1, h2, h3⟩ | ⟨c, h1, h2⟩
    · exact ⟨_, Ev.of (graph_Order.mono _ _) (k := m + 40) (by rw [hf]; exact h1), .ok m rfl h g o d h2 h3⟩
    · exact ⟨_, Ev.of (graph_Order.mono _ _) (k := m + 40) (by rw [hf]; exact h1), .cyc m rfl h g c h2⟩

/-! ### The document's order is the same -/
def LeftOf (n : Nat) (d left : List Bool) : Prop := left.length = n ∧ ∀ j : Int, 0 ≤ j → j < n → rdOf false left j = !rdOf false d j
def freeR (l : List Ed) (left : List Bool) (i : Int) : Bool := rdOf false left i && l.all (fun x => !(decide (x.f1 = i) && rdOf false left x.f0))
theorem freeR_iff {n : Nat} {l : List Ed} {d left : List Bool} (g : Good n l) (L : LeftOf n d left) (i : Int) (h0 : 0 ≤ i) (h1 : i < n) : freeR l left i = true ↔ (rdOf false d i = false ∧ waitsG d l i < 0) := by
  unfold freeR
  rw [Bool.and_eq_true, L.2 i h0 h1, Bool.not_eq_true', List.all_eq_true]
  refine and_congr_right fun _ => ?_
  constructor
  · intro h
    rcases waits_cases g d i with ⟨h2, _⟩ | ⟨h2, ⟨x, hx, e0, e1⟩, h3⟩
    · exact h2
    · have := h x hx
      rw [e1, e0, L.2 _ h2 (by have := (g.ok x hx).2.1; omega), h3] at this
      simp at this
  · intro h x hx
    rcases waits_cases g d i with ⟨_, h2⟩ | ⟨h2, _⟩
    · by_cases e : x.f1 = i
      · have := h2 x.f0 ⟨x, hx, rfl, e⟩
        rw [L.2 _ (g.ok x hx).1 (g.ok x hx).2.1, this]
        simp
      · simp [e]
    · omega
def nextR (l : List Ed) (left : List Bool) : Nat → Int → Int
  | 0, nx => nx
  | m + 1, nx => nextR l left m (if freeR l left (m : Int) = true then (m : Int) else nx)
theorem nextR_spec (l : List Ed) (left : List Bool) : ∀ (m : Nat) (nx : Int), (∃ j : Nat, j < m ∧ freeR l left (j : Int) = true ∧ nextR l left m nx = j ∧ ∀ i : Nat, i < j → freeR l left (i : Int) = false) ∨ ((∀ j : Nat, j < m → freeR l left (j : Int) = false) ∧ nextR l left m nx = nx)
  | 0, nx => .inr ⟨fun j hj => by omega, rfl⟩
  | m + 1, nx => by
    unfold nextR
    rcases nextR_spec l left m (if freeR l left (m : Int) = true then (m : Int) else nx) with ⟨j, h1, h2, h3, h4⟩ | ⟨h1, h2⟩
    · exact .inl ⟨j, by omega, h2, h3, h4⟩
    · rw [h2]
      cases hf : freeR l left (m : Int) with
      | true => exact .inl ⟨m, by omega, hf, by rw [if_pos rfl], h1⟩
      | false =>
        refine .inr ⟨fun j hj => ?_, by rw [if_neg (by decide)]⟩
        by_cases e : j = m
        · subst e; exact hf
        · exact h1 j (by omega)
theorem next_eq {n : Nat} {l : List Ed} {d left : List Bool} (g : Good n l) (L : LeftOf n d left) : nextR l left n (-1) = (scanG d l n 0 (-1)).1 := by
  obtain ⟨nx, ls, hsc⟩ : ∃ nx ls, scanG d l n 0 (-1) = (nx, ls) := ⟨_, _, rfl⟩
  rw [hsc]
  show _ = nx
  have hfree : ∀ j : Nat, j < n → (freeR l left (j : Int) = true ↔ (rdOf false d (j : Int) = false ∧ waitsG d l (j : Int) < 0)) := fun j hj => freeR_iff g L j (by omega) (by omega)
  rcases scan_spec d l n 0 (-1) nx ls (by omega) hsc with ⟨h1, h2, _⟩ | ⟨h1, h2, h3, h4, h5⟩
  · rcases nextR_spec l left n (-1) with ⟨j, a1, a2, a3, a4⟩ | ⟨a1, a2⟩
    · have := (hfree j a1).1 a2
      have := h2 j (by omega) (by omega) this.1
      omega
    · rw [a2, h1]
  · obtain ⟨q, rfl⟩ := Int.eq_ofNat_of_zero_le h1
    rcases nextR_spec l left n (-1) with ⟨j, a1, a2, a3, a4⟩ | ⟨a1, a2⟩
    · rw [a3]
      have b := (hfree j a1).1 a2
      have hq : ¬ q < j := fun h => by
        have h6 := a4 q h
        rw [(hfree q (by omega)).2 ⟨h3, h4⟩] at h6
        cases h6
      have hj : ¬ j < q := fun h => by
        have := h5 j (by omega) (by omega) b.1
        omega
      omega
    · have h6 := a1 q (by omega)
      rw [(hfree q (by omega)).2 ⟨h3, h4⟩] at h6
      cases h6
theorem ev_ref_l3 {n : Nat} {l : List Ed} (g : Good n l) (hl : l.length ≤ 9223372036854775807) (left : List Bool) (hlen : left.length = n) (o : List Int) (nx : Int) (i : Nat) (r : List Int × Int) : ∀ (m kk : Nat) (b : Bool), kk + m = l.length →
    Ev (fun k => majordomoref08_Order.l2 k n l left o (if (b && (l.drop kk).all (fun x => !(decide (x.f1 = (i : Int)) && rdOf false left x.f0))) = true then (i : Int) else nx) (wrap64 ((i : Int) - 1))) r →
    Ev (fun k => majordomoref08_Order.l3 k n l left o nx (i : Int) b (kk : Int)) r := by
  intro m
  induction m with
  | zero =>
    intro kk b hk h
    rw [List.drop_eq_nil_of_le (by omega), List.all_nil, Bool.and_true] at h
    refine Ev.step (fun k => ?_) h
    simp only [majordomoref08_Order.l3]
    rw [if_neg (by omega)]
    cases b <;> rfl
  | succ m ih =>
    intro kk b hk h
    have hlt : kk < l.length := by omega
    rw [List.drop_eq_getElem_cons hlt, List.all_cons, ← rd_get hlt] at h
    have hx := g.ok (rd_T32 l (kk : Int)) (by rw [rd_get hlt]; exact List.getElem_mem hlt)
    have hst : ∀ k, majordomoref08_Order.l3 (k + 1) n l left o nx (i : Int) b (kk : Int) = majordomoref08_Order.l3 k n l left o nx (i : Int) (b && !(decide ((rd_T32 l (kk : Int)).f1 = (i : Int)) && rdOf false left (rd_T32 l (kk : Int)).f0)) ((kk + 1 : Nat) : Int) := by
      intro k
      simp only [majordomoref08_Order.l3]
      rw [if_pos (by omega), wv _ ((kk + 1 : Nat) : Int) (by omega) (by omega) (by omega)]
      generalize rd_T32 l (kk : Int) = x at hx
      cases b with
      | false => rw [if_neg (by decide)]; rfl
      | true =>
        rw [if_pos rfl, if_pos (by omega)]
        by_cases e : x.f1 = (i : Int)
        · rw [if_pos e, if_pos (by omega), if_pos (by omega), decide_eq_true e, Bool.true_and, Bool.true_and]
        · rw [if_neg e, decide_eq_false e, Bool.false_and, Bool.true_and]
    refine Ev.step hst (ih (kk + 1) _ (by omega) ?_)
    rw [Bool.and_assoc]
    exact h
theorem ev_ref_l2 {n : Nat} {l : List Ed} (g : Good n l) (hl : l.length ≤ 9223372036854775807) (left : List Bool) (hlen : left.length = n) (o : List Int) (ho : o.length < 64) (r : List Int × Int) : ∀ (m : Nat) (nx : Int), m ≤ n → nx < n →
    (nextR l left m nx < 0 → r = ([], 80)) → (0 ≤ nextR l left m nx → Ev (fun k => majordomoref08_Order.l1 k n l (left.set (nextR l left m nx).toNat false) (o ++ [nextR l left m nx])) r) →
    Ev (fun k => majordomoref08_Order.l2 k n l left o nx ((m : Int) - 1)) r := by
  have hn := g.n32
  intro m
  induction m with
  | zero =>
    intro nx hm hx hneg hpos
    unfold nextR at hneg hpos
    by_cases h0 : nx < 0
    · rw [hneg h0]
      refine Ev.step (f := fun _ => some ([], 80)) (fun k => ?_) (Ev.now _)
      simp only [majordomoref08_Order.l2]
      rw [if_neg (by omega), if_pos h0]
    · refine Ev.step (fun k => ?_) (hpos (by omega))
      simp only [majordomoref08_Order.l2]
      rw [if_neg (by omega), if_neg h0, if_pos (by omega), if_pos (by omega), if_pos (by omega)]
  | succ m ih =>
    intro nx hm hx hneg hpos
    unfold nextR at hneg hpos
    have h2 := ih (if freeR l left (m : Int) = true then (m : Int) else nx) (by omega) (by split <;> omega) hneg hpos
    have h3 := ev_ref_l3 g hl left hlen o nx m r l.length 0 (rdOf false left (m : Int)) (by omega) (by
      rw [List.drop_zero, wv _ ((m : Int) - 1) rfl (by omega) (by omega)]
      exact h2)
    refine Ev.step (fun k => ?_) h3
    simp only [majordomoref08_Order.l2]
    rw [if_pos (by omega), if_pos (by omega), if_pos (by omega), show ((m + 1 : Nat) : Int) - 1 = (m : Int) by omega]
    rfl
theorem ev_ref_l1 {n : Nat} {l : List Ed} (g : Good n l) (hl : l.length ≤ 9223372036854775807) : ∀ (k0 : Nat) (d : List Bool) (o : List Int) (left : List Bool) (res : List Int × List Int × Int), orderG n l k0 d o = some res → OInv n l d o → LeftOf n d left → Ev (fun k => majordomoref08_Order.l1 k n l left o) (res.1, res.2.2) := by
  have hn := g.n32
  intro k0
  induction k0 with
  | zero => intro d o left res h _ _; simp [orderG] at h
  | succ k0 ih =>
    intro d o left res h I L
    unfold orderG at h
    by_cases ho : o.length < n
    · rw [if_pos ho] at h
      rw [← next_eq g L] at h
      have h2 : Ev (fun k => majordomoref08_Order.l2 k n l left o (-1) ((n : Int) - 1)) (res.1, res.2.2) := by
        refine ev_ref_l2 g hl left L.1 o (by omega) _ n (-1) (Nat.le_refl _) (by omega) (fun hneg => ?_) (fun hpos => ?_)
        · rw [if_pos hneg] at h
          obtain ⟨c, _, h⟩ := Option.bind_eq_some_iff.1 h
          obtain rfl := Option.some.inj h
          rfl
        · rw [if_neg (by omega)] at h
          have hs : nextR l left n (-1) = (scanG d l n 0 (-1)).1 := next_eq g L
          obtain ⟨nx, ls, hsc⟩ : ∃ nx ls, scanG d l n 0 (-1) = (nx, ls) := ⟨_, _, rfl⟩
          rw [hsc] at hs
          rw [hs] at h hpos ⊢
          dsimp only at h hpos ⊢
          rcases scan_spec d l n 0 (-1) nx ls (by omega) hsc with ⟨h1, _⟩ | ⟨h1, h2, h3, h4, _⟩
          · omega
          · refine ih _ _ _ _ h (I.step g h1 (by omega) h3 h4) ⟨by rw [List.length_set]; exact L.1, fun j a b => ?_⟩
            rw [rd_set d nx j h1 a (by rw [I.len]; omega)]
            have h5 := L.2 j a b
            unfold rdOf at h5 ⊢
            rw [List.getD_eq_getElem?_getD, List.getElem?_set]
            by_cases e : nx = j
            · subst e
              rw [if_pos rfl, if_pos (by rw [L.1]; omega)]
              simp
            · rw [if_neg (by omega), decide_eq_false e, Bool.false_or, ← List.getD_eq_getElem?_getD]
              exact h5
      refine Ev.step (fun k => ?_) h2
      simp only [majordomoref08_Order.l1]
      rw [if_pos (by omega), wv _ ((n : Int) - 1) rfl (by omega) (by omega)]
    · rw [if_neg ho] at h
      obtain rfl := Option.some.inj h
      refine Ev.step (f := fun _ => some (o, 0)) (fun k => ?_) (Ev.now _)
      simp only [majordomoref08_Order.l1]
      rw [if_neg (by omega)]
theorem ev_ref_l0 {n : Nat} {l : List Ed} (g : Good n l) (r : List Int × Int) (h : Ev (fun k => majordomoref08_Order.l1 k n l (List.replicate n true) []) r) : ∀ (d i : Nat), i + d = n → Ev (fun k => majordomoref08_Order.l0 k n l (List.replicate i true ++ List.replicate d false) (i : Int)) r := by
  have hn := g.n32
  intro d
  induction d with
  | zero =>
    intro i hi
    refine Ev.step (fun k => ?_) h
    simp only [majordomoref08_Order.l0]
    rw [if_neg (by omega), List.replicate_zero, List.append_nil, show i = n by omega]
  | succ d ih =>
    intro i hi
    refine Ev.step (fun k => ?_) (ih (i + 1) (by omega))
    simp only [majordomoref08_Order.l0]
    rw [if_pos (by omega), if_pos (by omega), if_pos (by rw [List.length_append, List.length_replicate, List.length_replicate]; omega), wv _ ((i + 1 : Nat) : Int) (by omega) (by omega) (by omega), Int.toNat_natCast, List.set_append_right _ _ (by rw [List.length_replicate]; exact Nat.le_refl _), List.length_replicate, Nat.sub_self, List.replicate_succ, List.set_cons_zero, List.replicate_succ', List.append_assoc]
    rfl
theorem ev_refOrder (n : Int) (l : List Ed) (hl : l.length ≤ 9223372036854775807) (res : List Int × List Int × Int) (h : Ev (fun k => graph_Order.f k n l) res) (A : Ans n l res) : Ev (fun k => majordomoref08_Order.f k n l) (res.1, res.2.2) := by
  unfold majordomoref08_Order.f
  rcases bad_total n l hl with hb | ⟨hb, m, rfl, g⟩
  · refine Ev.bind (ev_refBad n l true hb) ?_
    cases A with
    | bad _ => exact Ev.congr (fun k => by rw [if_pos rfl]) (Ev.now _)
    | ok _ _ h2 => rw [hb] at h2; cases h2
    | cyc _ _ h2 => rw [hb] at h2; cases h2
  · have hn := g.n32
    refine Ev.bind (ev_refBad m l false hb) ?_
    have hf : ∀ k, graph_Order.f k (m : Int) l = orderG m l k (List.replicate 32 false) [] := fun k => by
      unfold graph_Order.f
      rw [hb, Option.bind_some, if_neg (by decide), Int.toNat_natCast]
    obtain ⟨k0, h0⟩ := Ev.rounds h
    rw [hf] at h0
    have h1 := ev_ref_l1 g hl k0 _ _ (List.replicate m true) res h0 OInv.start ⟨by simp, fun j a b => by
      unfold rdOf
      rw [List.getD_eq_getElem?_getD, List.getD_eq_getElem?_getD, List.getElem?_replicate, List.getElem?_replicate, if_pos (by omega), if_pos (by omega)]
      rfl⟩
    have h2 := ev_ref_l0 g _ h1 m 0 (by omega)
    refine Ev.congr (fun k => ?_) h2
    rw [if_neg (by decide), if_pos (by omega), if_pos (by omega), Int.toNat_natCast]
    rfl
end Go.Proofs.Ytkcfjnacnabdaaa.PG
