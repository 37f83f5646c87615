/- GraphBehind's plain law: what is behind a number is the document's; there is a cycle just if one is behind itself. -/
import Derived.Test.YtkcfjnacnabdaaaGraReach
import Derived.Test.YtkcfjnacnabdaaaPGx9
namespace Go.Proofs.Ytkcfjnacnabdaaa.PG
open Go.RowKit Go.Proofs.YtkcfjnacnabdaaaW.PrintWords Go.Proofs.YtkcfjnacnabdaaaW.PrintLast Go.Proofs.YtkcfjnacnabdaaaW.PrintMore

theorem ev_behind_l1 (n : Int) (l : List Ed) (e : Int) (i : Int) (B : List Int) (hB : B.length ≤ 64) (r : Bool) : ∀ (m kk : Nat) (b : Bool), kk + m = B.length →
    Ev (fun k => majordomolaw08_GraphBehind.l0 k n l e (b || (B.drop kk).any (fun x => x == i)) (wrap64 (i + 1))) r → Ev (fun k => majordomolaw08_GraphBehind.l1 k n l e b i B (kk : Int)) r := by
  intro m
  induction m with
  | zero =>
    intro kk b hk h
    rw [List.drop_eq_nil_of_le (by omega), List.any_nil, Bool.or_false] at h
    refine Ev.step (fun k => ?_) h
    simp only [majordomolaw08_GraphBehind.l1]
    rw [if_neg (by omega)]
  | succ m ih =>
    intro kk b hk h
    have hlt : kk < B.length := by omega
    rw [List.drop_eq_getElem_cons hlt, List.any_cons, ← rd_int hlt, ← Bool.or_assoc] at h
    refine Ev.step (fun k => ?_) (ih (kk + 1) _ (by omega) h)
    simp only [majordomolaw08_GraphBehind.l1]
    rw [if_pos (by omega), wv _ ((kk + 1 : Nat) : Int) (by omega) (by omega) (by omega)]
    cases b with
    | true => rw [if_pos rfl, Bool.true_or]
    | false => rw [if_neg (by decide), if_pos (by omega), Bool.false_or]
theorem ev_behind_l0 {n : Nat} {l : List Ed} (g : Good n l) (hb : graph_bad.f (n : Int) l = some false) (e : Int) : ∀ (m i : Nat) (b : Bool), i + m = n →
    ((b = true ∨ ∃ j : Int, i ≤ j ∧ j < n ∧ Reach l j j) ↔ e = 80) → Ev (fun k => majordomolaw08_GraphBehind.l0 k n l e b (i : Int)) true := by
  have hn := g.n32
  intro m
  induction m with
  | zero =>
    intro i b hi h
    refine Ev.step (f := fun _ => some true) (fun k => ?_) (Ev.now _)
    simp only [majordomolaw08_GraphBehind.l0]
    rw [if_neg (by omega)]
    congr 1
    have h2 : b = true ↔ e = 80 := ⟨fun hb => h.1 (.inl hb), fun he => by
      rcases h.2 he with h | ⟨j, h0, h1, _⟩
      · exact h
      · omega⟩
    cases b with
    | true => rw [h2.1 rfl]; rfl
    | false =>
      have : ¬ e = 80 := fun he => by have := h2.2 he; cases this
      simp [this]
  | succ m ih =>
    intro i b hi h
    obtain ⟨d, hd, iff⟩ := behind_all g hb (i : Int) (by omega) (by omega)
    have hle := outG_le d n
    have hany : (outG d n).any (fun x => x == (i : Int)) = true ↔ Reach l (i : Int) (i : Int) := by
      rw [List.any_eq_true]
      constructor
      · rintro ⟨x, hx, e⟩
        have := (mem_outG d n x).1 hx
        rw [beq_iff_eq] at e
        subst e
        exact (iff _ this.1).1 this.2.2
      · intro hr
        exact ⟨(i : Int), (mem_outG d n _).2 ⟨by omega, by omega, (iff _ (by omega)).2 hr⟩, by simp⟩
    have h2 := ih (i + 1) (b || (outG d n).any (fun x => x == (i : Int))) (by omega) (by
      rw [← h, Bool.or_eq_true, hany]
      constructor
      · rintro ((h | h) | ⟨j, h0, h1, h2⟩)
        · exact .inl h
        · exact .inr ⟨i, by omega, by omega, h⟩
        · exact .inr ⟨j, by omega, h1, h2⟩
      · rintro (h | ⟨j, h0, h1, h2⟩)
        · exact .inl (.inl h)
        · by_cases ej : j = (i : Int)
          · subst ej; exact .inl (.inr h2)
          · exact .inr ⟨j, by omega, h1, h2⟩)
    have h3 := ev_behind_l1 n l e (i : Int) (outG d n) (by omega) true (outG d n).length 0 b (by omega) (by
      rw [List.drop_zero, wv _ ((i + 1 : Nat) : Int) (by omega) (by omega) (by omega)]
      exact h2)
    refine Ev.step (f := fun k => (graph_Behind.f k n l (i : Int)).bind fun t => majordomolaw08_GraphBehind.l1 k n l e b (i : Int) t 0) (fun k => ?_) (Ev.bind hd h3)
    simp only [majordomolaw08_GraphBehind.l0]
    rw [if_pos (by omega)]
theorem ev_GraphBehind (n : Int) (l : List Ed) (s : Int) (hl : l.length ≤ 9223372036854775807) : Ev (fun k => majordomolaw08_GraphBehind.f k n l s) true := by
  obtain ⟨r, h1, h2, h3, h4⟩ := ev_behinds n l hl s
  obtain ⟨res, hr, A⟩ := order_all n l hl
  unfold majordomolaw08_GraphBehind.f
  refine Ev.bind ev_shown (Ev.bind h1 (Ev.bind h2 (Ev.bind (ev_ints r (by omega)) ?_)))
  refine Ev.congr (f := fun k => majordomolaw08_GraphBehind.j0 k n l r false) (fun k => by rw [if_pos rfl]; rfl) ?_
  refine Ev.step (f := fun k => (graph_Order.f k n l).bind fun bt => if bt.2.2 = 1 then some ((r.length : Int) == 0) else majordomolaw08_GraphBehind.l0 k n l bt.2.2 false 0) (fun k => ?_) (Ev.bind hr ?_)
  · simp only [majordomolaw08_GraphBehind.j0]
    rw [if_neg (by decide)]
  · cases A with
    | bad hb =>
      rw [h4 hb]
      exact Ev.congr (f := fun _ => some true) (fun k => by rw [if_pos rfl]; rfl) (Ev.now _)
    | ok m hm hb g o d I ho =>
      subst hm
      refine Ev.congr (fun k => by rw [if_neg (show ¬ ((0 : Int) = 1) by decide)]; rfl) (ev_behind_l0 g hb 0 m 0 false (by omega) ?_)
      constructor
      · rintro (h | ⟨j, _, _, h⟩)
        · cases h
        · exact absurd (Reach.rank (I.rank g ho) h) (Nat.lt_irrefl _)
      · intro h; cases h
    | cyc m hm hb g c hc =>
      subst hm
      refine Ev.congr (fun k => by rw [if_neg (show ¬ ((80 : Int) = 1) by decide)]; rfl) (ev_behind_l0 g hb 80 m 0 false (by omega) ?_)
      refine ⟨fun _ => rfl, fun _ => .inr ⟨c.getD 0 0, ?_, ?_, hc.reach⟩⟩
      · have := (hc.reach.rng g).1; omega
      · exact (hc.reach.rng g).2
end Go.Proofs.Ytkcfjnacnabdaaa.PG
