/- GraphOrders' plain law: the order is the document's, and a cycle that is told is one. -/
import Derived.Test.YtkcfjnacnabdaaaGraEv
import Derived.Test.YtkcfjnacnabdaaaPGx6
namespace Go.Proofs.Ytkcfjnacnabdaaa.PG
open Go.RowKit Go.Proofs.YtkcfjnacnabdaaaW.PrintWords Go.Proofs.YtkcfjnacnabdaaaW.PrintLast Go.Proofs.YtkcfjnacnabdaaaW.PrintMore

theorem ev_edge (l : List Ed) (hl : l.length ≤ 9223372036854775807) (u v : Int) (h : Edge l u v) : Ev (fun k => majordomolaw08_edge.f k l u v) true := by
  have main : ∀ (d i : Nat), i + d = l.length → (∃ j, i ≤ j ∧ ∃ hj : j < l.length, (l[j]).f0 = u ∧ (l[j]).f1 = v) → Ev (fun k => majordomolaw08_edge.l0 k l u v (i : Int)) true := by
    intro d
    induction d with
    | zero => rintro i hi ⟨j, h1, h2, _⟩; omega
    | succ d ih =>
      rintro i hi ⟨j, h1, h2, h3⟩
      have hk : i < l.length := by omega
      by_cases e0 : (rd_T32 l (i : Int)).f0 = u
      · by_cases e1 : (rd_T32 l (i : Int)).f1 = v
        · refine Ev.step (f := fun _ => some true) (fun k => ?_) (Ev.now _)
          simp only [majordomolaw08_edge.l0]
          rw [if_pos (by omega), if_pos (by omega), if_pos e0, if_pos e1]
        · have hne : j ≠ i := fun e => by subst e; rw [rd_get hk] at e1; exact e1 h3.2
          refine Ev.step (fun k => ?_) (ih (i + 1) (by omega) ⟨j, by omega, h2, h3⟩)
          simp only [majordomolaw08_edge.l0]
          rw [if_pos (by omega), if_pos (by omega), if_pos e0, if_neg e1, wv _ ((i + 1 : Nat) : Int) (by omega) (by omega) (by omega)]
      · have hne : j ≠ i := fun e => by subst e; rw [rd_get hk] at e0; exact e0 h3.1
        refine Ev.step (fun k => ?_) (ih (i + 1) (by omega) ⟨j, by omega, h2, h3⟩)
        simp only [majordomolaw08_edge.l0]
        rw [if_pos (by omega), if_pos (by omega), if_neg e0, wv _ ((i + 1 : Nat) : Int) (by omega) (by omega) (by omega)]
  obtain ⟨x, hx, h0, h1⟩ := h
  obtain ⟨j, hj, rfl⟩ := List.getElem_of_mem hx
  exact main l.length 0 (by omega) ⟨j, by omega, hj, h0, h1⟩
theorem tmod_nat (a b : Nat) : Int.tmod (a : Int) (b : Int) = ((a % b : Nat) : Int) := by
  rw [Int.tmod_eq_emod_of_nonneg (by omega)]
  omega
theorem rd_getD (c : List Int) (j : Nat) : rd c (j : Int) = c.getD j 0 := by unfold rd; rw [Int.toNat_natCast]
theorem ev_cyc_l1 {n : Nat} {l : List Ed} (hl : l.length ≤ 9223372036854775807) {c : List Int} (hc : Cyc n l c) (hb : c.length ≤ 4611686018427387904) : ∀ (d i : Nat), i + d = c.length → Ev (fun k => majordomolaw08_GraphOrders.l1 k l c (i : Int)) true := by
  have hp := hc.pos
  intro d
  induction d with
  | zero =>
    intro i hi
    refine Ev.step (f := fun _ => some true) (fun k => ?_) (Ev.now _)
    simp only [majordomolaw08_GraphOrders.l1]
    rw [if_neg (by omega), decide_eq_true (by omega)]
  | succ d ih =>
    intro i hi
    have hk : i < c.length := by omega
    have hm : (i + 1) % c.length < c.length := Nat.mod_lt _ hp
    have h2 : ∀ (e j : Nat), j + e = i → Ev (fun k => majordomolaw08_GraphOrders.l2 k l c (i : Int) (j : Int)) true := by
      intro e
      induction e with
      | zero =>
        intro j hj
        refine Ev.step (fun k => ?_) (ih (i + 1) (by omega))
        simp only [majordomolaw08_GraphOrders.l2]
        rw [if_neg (by omega), wv _ ((i + 1 : Nat) : Int) (by omega) (by omega) (by omega)]
      | succ e ih2 =>
        intro j hj
        have hne : rd c (j : Int) ≠ rd c (i : Int) := by
          rw [rd_int (show j < c.length by omega), rd_int hk]
          exact List.pairwise_iff_getElem.1 hc.nd j i (by omega) hk (by omega)
        refine Ev.step (fun k => ?_) (ih2 (j + 1) (by omega))
        simp only [majordomolaw08_GraphOrders.l2]
        rw [if_pos (by omega), if_pos (by omega), if_pos (by omega), if_pos (by omega), if_pos (by omega), if_neg hne, wv _ ((j + 1 : Nat) : Int) (by omega) (by omega) (by omega)]
    have he := ev_edge l hl _ _ (hc.edge i hk)
    refine Ev.step (f := fun k => (majordomolaw08_edge.f k l (c.getD i 0) (c.getD ((i + 1) % c.length) 0)).bind fun t => if t = true then majordomolaw08_GraphOrders.l2 k l c (i : Int) 0 else some false) (fun k => ?_) (Ev.bind he (Ev.congr (fun k => by rw [if_pos rfl]; rfl) (h2 i 0 (by omega))))
    simp only [majordomolaw08_GraphOrders.l1]
    rw [wv _ ((i + 1 : Nat) : Int) (by omega) (by omega) (by omega), tmod_nat, if_pos (by omega), if_pos (by omega), if_neg (by omega), if_pos (by omega), if_pos (by omega), rd_getD, rd_getD]
theorem ev_orders_l0 (l : List Ed) (hl : l.length ≤ 9223372036854775807) (c : List Int) (e : Int) (h : Ev (fun k => if e = 80 then majordomolaw08_GraphOrders.l1 k l c 0 else some ((c.length : Int) == 0)) true) : ∀ (d i : Nat), i + d = l.length → Ev (fun k => majordomolaw08_GraphOrders.l0 k l l c e (i : Int)) true := by
  intro d
  induction d with
  | zero =>
    intro i hi
    refine Ev.step (fun k => ?_) h
    simp only [majordomolaw08_GraphOrders.l0]
    rw [if_neg (by omega)]
  | succ d ih =>
    intro i hi
    refine Ev.step (fun k => ?_) (ih (i + 1) (by omega))
    simp only [majordomolaw08_GraphOrders.l0]
    rw [if_pos (by omega), if_pos (by omega), if_pos (by omega)]
    simp only [beq_self_eq_true, Bool.not_true, Bool.or_self, Bool.false_eq_true, if_false]
    rw [wv _ ((i + 1 : Nat) : Int) (by omega) (by omega) (by omega)]
theorem ev_GraphOrders (n : Int) (l : List Ed) (hl : l.length ≤ 1048576) : Ev (fun k => majordomolaw08_GraphOrders.f k n l) true := by
  obtain ⟨res, hr, A⟩ := order_all n l (by omega)
  have hf := ev_refOrder n l (by omega) res hr A
  have hlen : res.1.length ≤ 32 := by
    cases A with
    | bad _ => simp
    | cyc _ _ _ _ _ _ => simp
    | ok m _ _ g o _ _ ho => have := g.n32; show o.length ≤ 32; omega
  have hi := ev_ints res.1 (by omega)
  unfold majordomolaw08_GraphOrders.f
  refine Ev.bind ev_shown ?_
  refine Ev.bind (a := ([] : List Ed)) (Ev.now _) ?_
  refine Ev.congr (f := fun k => (some ([] ++ l : List Ed)).bind fun y173 => ((graph_Order.f k n y173).bind fun bt176 => ((majordomoref08_Order.f k n l).bind fun bt183 => ((majordomolaw08_ints.f k bt176.1 bt183.1).bind fun t187 => (if true = true then (if t187 = true then (majordomolaw08_GraphOrders.j0 k l y173 bt176.2.1 bt176.2.2 (bt176.2.2 != bt183.2)) else (majordomolaw08_GraphOrders.j0 k l y173 bt176.2.1 bt176.2.2 true)) else (majordomolaw08_GraphOrders.j0 k l y173 bt176.2.1 bt176.2.2 true)))))) (fun k => by rw [if_pos (by rw [List.length_nil]; omega)]) ?_
  refine Ev.bind (a := l) (Ev.now _) (Ev.bind hr (Ev.bind hf (Ev.bind hi ?_)))
  refine Ev.congr (f := fun k => majordomolaw08_GraphOrders.j0 k l l res.2.1 res.2.2 false) (fun k => by rw [if_pos rfl, if_pos rfl]; simp only [bne_self_eq_false]) ?_
  have h0 := ev_orders_l0 l (by omega) res.2.1 res.2.2 (by
    cases A with
    | bad _ => exact Ev.congr (f := fun _ => some true) (fun k => by rw [if_neg (by decide)]; rfl) (Ev.now _)
    | ok m _ _ g o _ _ ho => exact Ev.congr (f := fun _ => some true) (fun k => by rw [if_neg (show ¬ ((0 : Int) = 80) by decide)]; rfl) (Ev.now _)
    | cyc m _ _ g c hc =>
      have hcl : c.length ≤ 32 := Nat.le_trans (few hc.nd hc.rng) g.n32
      exact Ev.congr (fun k => by rw [if_pos rfl]; rfl) (ev_cyc_l1 (by omega) hc (by omega) c.length 0 (by omega))) l.length 0 (by omega)
  refine Ev.step (fun k => ?_) h0
  simp only [majordomolaw08_GraphOrders.j0]
  rw [if_neg (by decide)]
  rfl
end Go.Proofs.Ytkcfjnacnabdaaa.PG
