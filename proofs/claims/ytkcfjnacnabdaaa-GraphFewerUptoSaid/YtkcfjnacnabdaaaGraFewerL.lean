/- GraphFewer's plain law: with an edge less there is an order still; a cycle that is told is one of these edges alone. -/
import Derived.Test.YtkcfjnacnabdaaaGraEv
import Derived.Test.YtkcfjnacnabdaaaPGx10
namespace Go.Proofs.Ytkcfjnacnabdaaa.PG
open Go.RowKit Go.Proofs.YtkcfjnacnabdaaaW.PrintWords Go.Proofs.YtkcfjnacnabdaaaW.PrintLast Go.Proofs.YtkcfjnacnabdaaaW.PrintMore

theorem tmod_nat' (a b : Nat) : Int.tmod (a : Int) (b : Int) = ((a % b : Nat) : Int) := by
  rw [Int.tmod_eq_emod_of_nonneg (by omega)]
  omega
theorem rd_getD' (c : List Int) (j : Nat) : rd c (j : Int) = c.getD j 0 := by unfold rd; rw [Int.toNat_natCast]
/-- The edges of a told cycle. -/
def cycEd (c : List Int) (i : Nat) : List Ed := (List.range i).map fun j => (⟨c.getD j 0, c.getD ((j + 1) % c.length) 0, false⟩ : Ed)
theorem cycEd_succ (c : List Int) (i : Nat) : cycEd c (i + 1) = cycEd c i ++ [(⟨c.getD i 0, c.getD ((i + 1) % c.length) 0, false⟩ : Ed)] := by
  unfold cycEd
  rw [List.range_succ, List.map_append]
  rfl
theorem cycEd_len (c : List Int) (i : Nat) : (cycEd c i).length = i := by unfold cycEd; simp
theorem cyc_few {n : Nat} {l : List Ed} {c : List Int} (h : Cyc n l c) : Cyc n (cycEd c c.length) c :=
  ⟨h.pos, h.nd, h.rng, fun j hj => ⟨_, List.mem_map.2 ⟨j, List.mem_range.2 hj, rfl⟩, rfl, rfl⟩⟩
theorem good_few {n : Nat} {l : List Ed} {c : List Int} (g : Good n l) (h : Cyc n l c) : Good n (cycEd c c.length) := by
  refine ⟨g.n32, fun x hx => ?_⟩
  obtain ⟨j, hj, rfl⟩ := List.mem_map.1 hx
  have hj := List.mem_range.1 hj
  have hm := Nat.mod_lt (j + 1) h.pos
  have e : ∀ q, q < c.length → 0 ≤ c.getD q 0 ∧ c.getD q 0 < n := fun q hq => by
    rw [List.getD_eq_getElem?_getD, List.getElem?_eq_getElem hq]
    exact h.rng _ (List.getElem_mem hq)
  have h1 := e j hj
  have h2 := e _ hm
  exact ⟨h1.1, h1.2, h2.1, h2.2⟩
theorem bad_of_good {n : Nat} {l : List Ed} (g : Good n l) (hl : l.length ≤ 9223372036854775807) : graph_bad.f (n : Int) l = some false := by
  have hn := g.n32
  unfold graph_bad.f
  rw [if_neg (by omega), if_neg (by omega), if_pos hl]
  congr 1
  rw [List.any_eq_false]
  intro x hx
  have := g.ok x hx
  unfold edgeBad
  simp only [Bool.or_eq_true, decide_eq_true_eq, not_or]
  omega
/-- Edges that have ranks have an order; edges that go round have none. -/
theorem order_rank {n : Nat} {l : List Ed} (g : Good n l) (hl : l.length ≤ 9223372036854775807) {r : Int → Nat} (hr : Rank l r) : ∃ o, Ev (fun k => graph_Order.f k (n : Int) l) (o, [], 0) := by
  obtain ⟨res, h, A⟩ := order_all n l hl
  cases A with
  | bad hb => rw [bad_of_good g hl] at hb; cases hb
  | ok m hm hb g' o d I ho => exact ⟨o, h⟩
  | cyc m hm hb g' c hc => exact absurd hr (hc.norank r)
theorem order_cyc {n : Nat} {l : List Ed} (g : Good n l) (hl : l.length ≤ 9223372036854775807) (hn : ∀ r, ¬ Rank l r) : ∃ c, Ev (fun k => graph_Order.f k (n : Int) l) ([], c, 80) := by
  obtain ⟨res, h, A⟩ := order_all n l hl
  cases A with
  | bad hb => rw [bad_of_good g hl] at hb; cases hb
  | ok m hm hb g' o d I ho => exact absurd (I.rank g' ho) (hn _)
  | cyc m hm hb g' c hc => exact ⟨c, h⟩
theorem ev_fewer_l0 {n : Nat} {c : List Int} (hc : c.length ≤ 64) (hp : 0 < c.length) (q : List Int × List Int × Int) (h : Ev (fun k => graph_Order.f k (n : Int) (cycEd c c.length)) q) (h80 : q.2.2 = 80) : ∀ (m i : Nat), i + m = c.length → Ev (fun k => majordomolaw08_GraphFewer.l0 k n c (cycEd c i) (i : Int)) true := by
  intro m
  induction m with
  | zero =>
    intro i hi
    refine Ev.step (f := fun k => (graph_Order.f k (n : Int) (cycEd c c.length)).bind fun bt => some (bt.2.2 == 80)) (fun k => ?_) (Ev.bind h (Ev.congr (f := fun _ => some true) (fun k => by rw [h80]; rfl) (Ev.now _)))
    simp only [majordomolaw08_GraphFewer.l0]
    rw [if_neg (by omega), show i = c.length by omega]
  | succ m ih =>
    intro i hi
    have hm := Nat.mod_lt (i + 1) hp
    have hlen := cycEd_len c i
    refine Ev.step (fun k => ?_) (ih (i + 1) (by omega))
    simp only [majordomolaw08_GraphFewer.l0]
    rw [wv _ ((i + 1 : Nat) : Int) (by omega) (by omega) (by omega), tmod_nat', if_pos (by omega), if_pos (by omega), if_neg (by omega), if_pos (by omega), if_pos (by omega), if_pos (by omega), rd_getD', rd_getD', cycEd_succ]
theorem ev_GraphFewer (n : Int) (l : List Ed) (i : Int) (hl : l.length ≤ 1048576) (hi0 : -9223372036854775808 ≤ i) (hi1 : i ≤ 9223372036854775807) : Ev (fun k => majordomolaw08_GraphFewer.f k n l i) true := by
  obtain ⟨res, hr, A⟩ := order_all n l (by omega)
  have jt : ∀ (c : List Int) (e : Int), Ev (fun k => majordomolaw08_GraphFewer.j0 k n l i true c e true) true := fun c e =>
    Ev.step (f := fun _ => some true) (fun k => by simp only [majordomolaw08_GraphFewer.j0]; rw [if_pos trivial]) (Ev.now _)
  unfold majordomolaw08_GraphFewer.f
  refine Ev.bind ev_shown (Ev.bind hr ?_)
  by_cases h1 : res.2.2 = 1
  · exact Ev.congr (fun k => by rw [if_pos rfl, if_pos h1]) (jt _ _)
  · refine Ev.congr (f := fun k => majordomolaw08_GraphFewer.j0 k n l i true res.2.1 res.2.2 ((l.length : Int) == 0)) (fun k => by rw [if_pos rfl, if_neg h1]) ?_
    by_cases h0 : l.length = 0
    · exact Ev.congr (fun k => by rw [show ((l.length : Int) == 0) = true by rw [beq_iff_eq]; omega]) (jt _ _)
    · rw [show ((l.length : Int) == 0) = false by rw [beq_eq_false_iff_ne]; omega]
      obtain ⟨i', hi', hw⟩ : ∃ i' : Nat, (i' : Int) ≤ 9223372036854775807 ∧ ∀ k, majordomolaw08_GraphFewer.j0 (k + 1) n l i true res.2.1 res.2.2 false = majordomolaw08_GraphFewer.j1 k n l (i' : Int) res.2.1 res.2.2 := by
        by_cases hneg : i < 0
        · refine ⟨(-(i + 1)).toNat, by omega, fun k => ?_⟩
          simp only [majordomolaw08_GraphFewer.j0]
          rw [if_neg (by decide), if_pos hneg, wv (i + 1) (i + 1) rfl (by omega) (by omega), wv _ ((-(i + 1)).toNat : Int) (by omega) (by omega) (by omega)]
        · refine ⟨i.toNat, by omega, fun k => ?_⟩
          simp only [majordomolaw08_GraphFewer.j0]
          rw [if_neg (by decide), if_neg hneg, show ((i.toNat : Nat) : Int) = i by omega]
      refine Ev.step hw ?_
      have hlt := Nat.mod_lt i' (show 0 < l.length by omega)
      obtain ⟨p, hp⟩ : ∃ p, i' % l.length = p := ⟨_, rfl⟩
      rw [hp] at hlt
      have hsub : ∀ x ∈ l.take p ++ l.drop (p + 1), x ∈ l := fun x hx => by
        rcases List.mem_append.1 hx with h | h
        · exact List.mem_of_mem_take h
        · exact List.mem_of_mem_drop h
      have hlen : (l.take p ++ l.drop (p + 1)).length ≤ l.length := by rw [List.length_append, List.length_take, List.length_drop]; omega
      have key : Ev (fun k => (graph_Order.f k n (l.take p ++ l.drop (p + 1))).bind fun bt => if res.2.2 = 0 then some (bt.2.2 == 0) else majordomolaw08_GraphFewer.l0 k n res.2.1 [] 0) true := by
        cases A with
        | bad _ => exact absurd rfl h1
        | ok m hm hb g o d I ho =>
          subst hm
          have g2 : Good m (l.take p ++ l.drop (p + 1)) := ⟨g.n32, fun x hx => g.ok x (hsub x hx)⟩
          obtain ⟨o2, h2⟩ := order_rank g2 (by omega) (r := fun u => idxG u o) (fun u v ⟨x, hx, e0, e1⟩ => I.rank g ho u v ⟨x, hsub x hx, e0, e1⟩)
          exact Ev.bind h2 (Ev.congr (f := fun _ => some true) (fun k => by rw [if_pos rfl]; rfl) (Ev.now _))
        | cyc m hm hb g c hc =>
          subst hm
          obtain ⟨q2, h2, _⟩ := order_all m (l.take p ++ l.drop (p + 1)) (by omega)
          have hcl : c.length ≤ 32 := Nat.le_trans (few hc.nd hc.rng) g.n32
          obtain ⟨c3, h3⟩ := order_cyc (good_few g hc) (by rw [cycEd_len]; omega) (fun r => (cyc_few hc).norank r)
          have h4 := ev_fewer_l0 (by omega) hc.pos _ h3 rfl c.length 0 (by omega)
          exact Ev.bind h2 (Ev.congr (fun k => by rw [if_neg (show ¬ ((80 : Int) = 0) by decide)]; rfl) h4)
      refine Ev.step (fun k => ?_) key
      simp only [majordomolaw08_GraphFewer.j1]
      rw [tmod_nat', hp, wv ((p : Int) + 1) ((p + 1 : Nat) : Int) (by omega) (by omega) (by omega), if_neg (by omega)]
      simp only [Option.bind_some, List.length_nil, List.nil_append, Int.toNat_natCast]
      rw [if_pos (by omega), if_pos (by omega), if_pos (by rw [List.length_take]; omega), if_pos (by omega), if_pos (by omega), if_pos (by rw [List.length_take, List.length_drop]; omega)]
end Go.Proofs.Ytkcfjnacnabdaaa.PG
