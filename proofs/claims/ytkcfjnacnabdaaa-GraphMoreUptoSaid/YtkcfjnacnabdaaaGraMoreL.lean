/- GraphMore's plain law: an edge that goes ahead changes nothing of that there is an order; one the other way round makes a cycle just if the second was behind the first. -/
import Derived.Test.YtkcfjnacnabdaaaGraReach
import Derived.Test.YtkcfjnacnabdaaaPGx11
namespace Go.Proofs.Ytkcfjnacnabdaaa.PG
open Go.RowKit Go.Proofs.YtkcfjnacnabdaaaW.PrintWords Go.Proofs.YtkcfjnacnabdaaaW.PrintLast Go.Proofs.YtkcfjnacnabdaaaW.PrintMore

theorem tmod_nat2 (a b : Nat) : Int.tmod (a : Int) (b : Int) = ((a % b : Nat) : Int) := by
  rw [Int.tmod_eq_emod_of_nonneg (by omega)]
  omega
theorem bad_of_good2 {n : Nat} {l : List Ed} (g : Good n l) (hl : l.length ≤ 9223372036854775807) : graph_bad.f (n : Int) l = some false := by
  have hn := g.n32
  unfold graph_bad.f
  rw [if_neg (by omega), if_neg (by omega), if_pos hl]
  congr 1
  rw [List.any_eq_false]
  intro x hx
  have := g.ok x hx
  unfold edgeBad
  simp only [Bool.or_eq_true, decide_eq_true_eq, not_or]
  omega
theorem order_rank2 {n : Nat} {l : List Ed} (g : Good n l) (hl : l.length ≤ 9223372036854775807) {r : Int → Nat} (hr : Rank l r) : ∃ o, Ev (fun k => graph_Order.f k (n : Int) l) (o, [], 0) := by
  obtain ⟨res, h, A⟩ := order_all n l hl
  cases A with
  | bad hb => rw [bad_of_good2 g hl] at hb; cases hb
  | ok m hm hb g' o d I ho => exact ⟨o, h⟩
  | cyc m hm hb g' c hc => exact absurd hr (hc.norank r)
theorem order_cyc2 {n : Nat} {l : List Ed} (g : Good n l) (hl : l.length ≤ 9223372036854775807) (hn : ∀ r, ¬ Rank l r) : ∃ c, Ev (fun k => graph_Order.f k (n : Int) l) ([], c, 80) := by
  obtain ⟨res, h, A⟩ := order_all n l hl
  cases A with
  | bad hb => rw [bad_of_good2 g hl] at hb; cases hb
  | ok m hm hb g' o d I ho => exact absurd (I.rank g' ho) (hn _)
  | cyc m hm hb g' c hc => exact ⟨c, h⟩
theorem idxG_nd {o : List Int} (nd : o.Nodup) {p : Nat} (hp : p < o.length) : idxG o[p] o = p := by
  have h1 := idxG_le (l := o) (p := p) (a := o[p]) (List.getElem?_eq_getElem hp)
  have h2 := idxG_get (l := o) (a := o[p]) (List.getElem_mem hp)
  obtain ⟨h3, h4⟩ := List.getElem?_eq_some_iff.1 h2
  refine Classical.byContradiction fun hne => ?_
  exact (List.pairwise_iff_getElem.1 nd (idxG o[p] o) p h3 hp (by omega)) h4
theorem edge_more {l : List Ed} {a b u v : Int} {f : Bool} : Edge (l ++ [(⟨a, b, f⟩ : Ed)]) u v ↔ Edge l u v ∨ (a = u ∧ b = v) := by
  constructor
  · rintro ⟨x, hx, e0, e1⟩
    rcases List.mem_append.1 hx with hx | hx
    · exact .inl ⟨x, hx, e0, e1⟩
    · rw [List.mem_singleton] at hx
      subst hx
      exact .inr ⟨e0, e1⟩
  · rintro (⟨x, hx, e0, e1⟩ | ⟨rfl, rfl⟩)
    · exact ⟨x, List.mem_append_left _ hx, e0, e1⟩
    · exact ⟨_, List.mem_append_right _ (List.mem_singleton.2 rfl), rfl, rfl⟩
theorem good_more {n : Nat} {l : List Ed} (g : Good n l) {a b : Int} (f : Bool) (ha : 0 ≤ a ∧ a < n) (hb : 0 ≤ b ∧ b < n) : Good n (l ++ [(⟨a, b, f⟩ : Ed)]) := by
  refine ⟨g.n32, fun x hx => ?_⟩
  rcases List.mem_append.1 hx with hx | hx
  · exact g.ok x hx
  · rw [List.mem_singleton] at hx
    subst hx
    exact ⟨ha.1, ha.2, hb.1, hb.2⟩
theorem ev_more_l0 (o : List Int) (q : Nat) (hq : q < o.length) (e2 : Int) (B : List Int) (hB : B.length ≤ 64) : ∀ (m kk : Nat) (b : Bool), kk + m = B.length →
    Ev (fun k => majordomolaw08_GraphMore.l0 k o (q : Int) 0 e2 b B (kk : Int)) ((e2 == 80) == (b || (B.drop kk).any (fun x => x == rd o (q : Int)))) := by
  intro m
  induction m with
  | zero =>
    intro kk b hk
    rw [List.drop_eq_nil_of_le (by omega), List.any_nil, Bool.or_false]
    refine Ev.step (f := fun _ => some ((e2 == 80) == b)) (fun k => ?_) (Ev.now _)
    simp only [majordomolaw08_GraphMore.l0]
    rw [if_neg (by omega), if_pos trivial]
  | succ m ih =>
    intro kk b hk
    have hlt : kk < B.length := by omega
    have h := ih (kk + 1) (b || (rd B (kk : Int) == rd o (q : Int))) (by omega)
    rw [List.drop_eq_getElem_cons hlt, List.any_cons, ← rd_int hlt, ← Bool.or_assoc]
    refine Ev.step (fun k => ?_) h
    simp only [majordomolaw08_GraphMore.l0]
    rw [if_pos (by omega), wv _ ((kk + 1 : Nat) : Int) (by omega) (by omega) (by omega)]
    cases b with
    | true => rw [if_pos rfl, Bool.true_or]
    | false => rw [if_neg (by decide), if_pos (by omega), if_pos (by omega), if_pos (by omega), Bool.false_or]
theorem ev_more_j3 {m : Nat} {l : List Ed} (g : Good m l) (hl : l.length ≤ 1048576) (o : List Int) (d : List Bool) (I : OInv m l d o) (ho : o.length = m) (p q : Nat) (hpq : p ≤ q) (hq : q < o.length) :
    Ev (fun k => majordomolaw08_GraphMore.j3 k m l o (p : Int) (q : Int)) true := by
  have hn := g.n32
  by_cases e : p = q
  · refine Ev.step (f := fun _ => some true) (fun k => ?_) (Ev.now _)
    simp only [majordomolaw08_GraphMore.j3]
    rw [if_pos (by omega)]
  · have hp : p < o.length := by omega
    have ru : rd o (p : Int) = o[p] := rd_int hp
    have rv : rd o (q : Int) = o[q] := rd_int hq
    have iu := idxG_nd I.nd hp
    have iv := idxG_nd I.nd hq
    have hu := I.rng o[p] (List.getElem_mem hp)
    have hv := I.rng o[q] (List.getElem_mem hq)
    have rk := I.rank g ho
    generalize o[p] = u at ru iu hu
    generalize o[q] = v at rv iv hv
    have g1 := good_more g false hu hv
    have g2 := good_more g false hv hu
    obtain ⟨o1, h1⟩ := order_rank2 g1 (by rw [List.length_append, List.length_singleton]; omega) (r := fun x => idxG x o) (fun a b e => by
      rcases edge_more.1 e with e | ⟨rfl, rfl⟩
      · exact rk a b e
      · show idxG u o < idxG v o
        omega)
    obtain ⟨db, hb, iff⟩ := behind_all g (bad_of_good2 g (by omega)) u hu.1 hu.2
    have hle := outG_le db m
    have hany : (outG db m).any (fun x => x == v) = true ↔ Reach l u v := by
      rw [List.any_eq_true]
      constructor
      · rintro ⟨x, hx, e⟩
        have := (mem_outG db m x).1 hx
        rw [beq_iff_eq] at e
        subst e
        exact (iff _ this.1).1 this.2.2
      · intro hr
        exact ⟨v, (mem_outG db m _).2 ⟨hv.1, hv.2, (iff _ hv.1).2 hr⟩, by simp⟩
    obtain ⟨q2, h2, h3⟩ : ∃ q2 : List Int × List Int × Int, Ev (fun k => graph_Order.f k (m : Int) (l ++ [(⟨v, u, false⟩ : Ed)])) q2 ∧ ((q2.2.2 == 80) == (outG db m).any (fun x => x == v)) = true := by
      by_cases hr : Reach l u v
      · obtain ⟨c, hc⟩ := order_cyc2 g2 (by rw [List.length_append, List.length_singleton]; omega) (fun r hrk => by
          have h1 : r u < r v := Reach.rank (l := l) (fun a b e => hrk a b (edge_more.2 (.inl e))) hr
          have h2 := hrk v u (edge_more.2 (.inr ⟨rfl, rfl⟩))
          omega)
        exact ⟨_, hc, by rw [hany.2 hr]; rfl⟩
      · obtain ⟨o2, h2⟩ := order_rank2 g2 (by rw [List.length_append, List.length_singleton]; omega) (r := fun x => open Classical in if x = u ∨ Reach l u x then idxG x o + m + 1 else idxG x o) (fun a b e => by
          rcases edge_more.1 e with e1 | ⟨e1, e2⟩
          · have h1 : idxG a o < idxG b o := rk a b e1
            by_cases ha : a = u ∨ Reach l u a
            · have hbb : b = u ∨ Reach l u b := .inr (by
                rcases ha with ha | ha
                · rw [ha] at e1; exact .one e1
                · exact ha.more e1)
              simp only [if_pos ha, if_pos hbb]
              omega
            · simp only [if_neg ha]
              split <;> omega
          · subst e1
            subst e2
            have hvn : ¬ (v = u ∨ Reach l u v) := by
              rintro (e | h)
              · subst e; omega
              · exact hr h
            simp only [if_neg hvn, if_pos (show u = u ∨ Reach l u u from .inl rfl)]
            omega)
        exact ⟨_, h2, by rw [Bool.eq_false_iff.2 (fun h => hr (hany.1 h))]; rfl⟩
    have h4 := ev_more_l0 o q hq q2.2.2 (outG db m) (by omega) (outG db m).length 0 false (by omega)
    rw [List.drop_zero, Bool.false_or, rv, h3] at h4
    refine Ev.step (f := fun k => (graph_Order.f k (m : Int) (l ++ [(⟨u, v, false⟩ : Ed)])).bind fun b1 => (graph_Order.f k (m : Int) (l ++ [(⟨v, u, false⟩ : Ed)])).bind fun b2 => (graph_Behind.f k (m : Int) l u).bind fun t => majordomolaw08_GraphMore.l0 k o (q : Int) b1.2.2 b2.2.2 false t 0) (fun k => ?_) (Ev.bind h1 (Ev.bind h2 (Ev.bind hb h4)))
    simp only [majordomolaw08_GraphMore.j3, Option.bind_some, List.length_nil, List.nil_append]
    rw [if_neg (by omega), if_pos (by omega), if_pos (by omega), if_pos (by omega), if_pos (by omega), if_pos (by omega), if_pos (by rw [List.length_singleton]; omega), ru, rv]
    have hA : 0 + l.length < 5864062014805 := by omega
    have hB : l.length + 1 < 5864062014805 := by omega
    simp only [List.length_singleton, if_pos hA, if_pos hB]
theorem ev_GraphMore (n : Int) (l : List Ed) (a b : Int) (hl : l.length ≤ 1048576) (ha0 : -9223372036854775808 ≤ a) (ha1 : a ≤ 9223372036854775807) (hb0 : -9223372036854775808 ≤ b) (hb1 : b ≤ 9223372036854775807) : Ev (fun k => majordomolaw08_GraphMore.f k n l a b) true := by
  obtain ⟨res, hr, A⟩ := order_all n l (by omega)
  have jt : ∀ (c : List Int), Ev (fun k => majordomolaw08_GraphMore.j0 k n l true c true a b) true := fun c =>
    Ev.step (f := fun _ => some true) (fun k => by simp only [majordomolaw08_GraphMore.j0]; rw [if_pos trivial]) (Ev.now _)
  unfold majordomolaw08_GraphMore.f
  refine Ev.bind ev_shown (Ev.bind hr ?_)
  cases A with
  | bad _ => exact Ev.congr (fun k => by rw [if_pos rfl, if_neg (show ¬ ((1 : Int) = 0) by decide)]) (jt _)
  | cyc _ _ _ _ _ _ => exact Ev.congr (fun k => by rw [if_pos rfl, if_neg (show ¬ ((80 : Int) = 0) by decide)]) (jt _)
  | ok m hm hb g o d I ho =>
    subst hm
    have hn := g.n32
    by_cases h2 : o.length < 2
    · exact Ev.congr (fun k => by rw [if_pos rfl, if_pos rfl, show decide (((o, ([] : List Int), (0 : Int)).1.length : Int) < 2) = true from decide_eq_true (by show (o.length : Int) < 2; omega)]) (jt o)
    · have fin : ∀ a' b' : Nat, Ev (fun k => majordomolaw08_GraphMore.j2 k m l o (a' : Int) (b' : Int)) true := by
        intro a' b'
        have h3 := Nat.mod_lt a' (show 0 < o.length by omega)
        have h4 := Nat.mod_lt b' (show 0 < o.length by omega)
        by_cases hab : b' % o.length < a' % o.length
        · refine Ev.step (fun k => ?_) (ev_more_j3 g hl o d I ho (b' % o.length) (a' % o.length) (by omega) h3)
          simp only [majordomolaw08_GraphMore.j2]
          rw [if_neg (by omega), tmod_nat2, tmod_nat2, if_pos (by omega)]
        · refine Ev.step (fun k => ?_) (ev_more_j3 g hl o d I ho (a' % o.length) (b' % o.length) (by omega) h4)
          simp only [majordomolaw08_GraphMore.j2]
          rw [if_neg (by omega), tmod_nat2, tmod_nat2, if_neg (by omega)]
      have second : ∀ a' : Nat, Ev (fun k => majordomolaw08_GraphMore.j1 k m l o (a' : Int) b) true := by
        intro a'
        by_cases hneg : b < 0
        · refine Ev.step (fun k => ?_) (fin a' (-(b + 1)).toNat)
          simp only [majordomolaw08_GraphMore.j1]
          rw [if_pos hneg, wv (b + 1) (b + 1) rfl (by omega) (by omega), wv _ ((-(b + 1)).toNat : Int) (by omega) (by omega) (by omega)]
        · refine Ev.step (fun k => ?_) (fin a' b.toNat)
          simp only [majordomolaw08_GraphMore.j1]
          rw [if_neg hneg, show ((b.toNat : Nat) : Int) = b by omega]
      refine Ev.congr (f := fun k => majordomolaw08_GraphMore.j0 k m l true o false a b) (fun k => by rw [if_pos rfl, if_pos rfl, show decide (((o, ([] : List Int), (0 : Int)).1.length : Int) < 2) = false from decide_eq_false (by show ¬ (o.length : Int) < 2; omega)]) ?_
      by_cases hneg : a < 0
      · refine Ev.step (fun k => ?_) (second (-(a + 1)).toNat)
        simp only [majordomolaw08_GraphMore.j0]
        rw [if_neg (by decide), if_pos hneg, wv (a + 1) (a + 1) rfl (by omega) (by omega), wv _ ((-(a + 1)).toNat : Int) (by omega) (by omega) (by omega)]
      · refine Ev.step (fun k => ?_) (second a.toNat)
        simp only [majordomolaw08_GraphMore.j0]
        rw [if_neg (by decide), if_neg hneg, show ((a.toNat : Nat) : Int) = a by omega]
end Go.Proofs.Ytkcfjnacnabdaaa.PG
