/- GraphGoes' plain law: in an order each edge goes from what comes ahead to what comes behind. -/
import Derived.Test.YtkcfjnacnabdaaaGraEv
import Derived.Test.YtkcfjnacnabdaaaPGx7
namespace Go.Proofs.Ytkcfjnacnabdaaa.PG
open Go.RowKit Go.Proofs.YtkcfjnacnabdaaaW.PrintWords Go.Proofs.YtkcfjnacnabdaaaW.PrintLast Go.Proofs.YtkcfjnacnabdaaaW.PrintMore

theorem rd_setI (P : List Int) (i j x : Int) (hi : 0 ≤ i) (hj : 0 ≤ j) (h : i < P.length) : rd (P.set i.toNat x) j = if i = j then x else rd P j := by
  unfold rd
  rw [List.getD_eq_getElem?_getD, List.getD_eq_getElem?_getD, List.getElem?_set]
  by_cases e : i = j
  · subst e
    simp [show i.toNat < P.length by omega]
  · rw [if_neg (by omega), if_neg e]
theorem ev_goes_l2 (n : Nat) (l : List Ed) (hl : l.length ≤ 9223372036854775807) (g : Good n l) (o P : List Int) (ho : o.length = n) (hP : P.length = n) (hlt : ∀ u v, Edge l u v → rd P u < rd P v) : ∀ (d i : Nat), i + d = l.length → Ev (fun k => majordomolaw08_GraphGoes.l2 k n l o P (i : Int)) true := by
  intro d
  induction d with
  | zero =>
    intro i hi
    refine Ev.step (f := fun _ => some true) (fun k => ?_) (Ev.now _)
    simp only [majordomolaw08_GraphGoes.l2]
    rw [if_neg (by omega), ho]
    simp
  | succ d ih =>
    intro i hi
    have hk : i < l.length := by omega
    have hm : rd_T32 l (i : Int) ∈ l := by rw [rd_get hk]; exact List.getElem_mem hk
    have hx := g.ok _ hm
    have hy := hlt _ _ ⟨_, hm, rfl, rfl⟩
    refine Ev.step (fun k => ?_) (ih (i + 1) (by omega))
    simp only [majordomolaw08_GraphGoes.l2]
    rw [if_pos (by omega), if_pos (by omega), if_pos (by omega), if_pos (by omega), if_pos (by omega), if_pos (by omega), if_neg (by omega), wv _ ((i + 1 : Nat) : Int) (by omega) (by omega) (by omega)]
theorem ev_goes_l1 {n : Nat} {l : List Ed} (hn : n ≤ 32) (o : List Int) (nd : o.Nodup) (rng : ∀ j ∈ o, 0 ≤ j ∧ j < n) (ho : o.length = n)
    (h : ∀ P : List Int, P.length = n → (∀ (p : Nat) (v : Int), o[p]? = some v → rd P v = p) → Ev (fun k => majordomolaw08_GraphGoes.l2 k n l o P 0) true) :
    ∀ (d i : Nat) (P : List Int), i + d = n → P.length = n → (∀ (p : Nat) (v : Int), p < i → o[p]? = some v → rd P v = p) → (∀ v : Int, 0 ≤ v → v < n → (∀ p : Nat, p < i → o[p]? ≠ some v) → rd P v = -1) → Ev (fun k => majordomolaw08_GraphGoes.l1 k n l o P (i : Int)) true := by
  intro d
  induction d with
  | zero =>
    intro i P hi hP h1 h2
    refine Ev.step (fun k => ?_) (h P hP (fun p v hv => h1 p v (by have := (List.getElem?_eq_some_iff.1 hv).1; omega) hv))
    simp only [majordomolaw08_GraphGoes.l1]
    rw [if_neg (by omega)]
  | succ d ih =>
    intro i P hi hP h1 h2
    have hk : i < o.length := by omega
    have hv : o[i]? = some o[i] := List.getElem?_eq_getElem hk
    have hr : rd o (i : Int) = o[i] := rd_int hk
    have hb := rng o[i] (List.getElem_mem hk)
    have hun : ∀ p : Nat, p < i → o[p]? ≠ some o[i] := fun p hp e => by
      obtain ⟨hp2, e2⟩ := List.getElem?_eq_some_iff.1 e
      exact (List.pairwise_iff_getElem.1 nd p i hp2 hk hp) e2
    have hm := h2 o[i] hb.1 hb.2 hun
    refine Ev.step (fun k => ?_) (ih (i + 1) (P.set (o[i]).toNat (i : Int)) (by omega) (by rw [List.length_set]; exact hP) (fun p v hp e => ?_) (fun v v0 v1 hq => ?_))
    · simp only [majordomolaw08_GraphGoes.l1]
      rw [hr, if_pos (by omega), if_pos (by omega), if_neg (by omega), if_neg (by omega), if_pos (by omega), if_pos (by omega), if_neg (by omega), wv _ ((i + 1 : Nat) : Int) (by omega) (by omega) (by omega)]
    · have hv0 := rng v (List.mem_of_getElem? e)
      rw [rd_setI P _ v _ hb.1 hv0.1 (by omega)]
      by_cases e1 : p = i
      · subst e1
        rw [hv] at e
        rw [if_pos (Option.some.inj e)]
      · rw [if_neg (fun e2 => hun p (by omega) (by rw [e, e2]))]
        exact h1 p v (by omega) e
    · rw [rd_setI P _ v _ hb.1 v0 (by omega), if_neg (fun e2 => hq i (by omega) (by rw [hv, e2]))]
      exact h2 v v0 v1 (fun p hp => hq p (by omega))
theorem ev_goes_l0 {n : Nat} {l : List Ed} (hn : n ≤ 32) (o : List Int) (h : Ev (fun k => majordomolaw08_GraphGoes.l1 k n l o (List.replicate n (-1)) 0) true) : ∀ (d i : Nat), i + d = n → Ev (fun k => majordomolaw08_GraphGoes.l0 k n l o (List.replicate i (-1) ++ List.replicate d 0) (i : Int)) true := by
  intro d
  induction d with
  | zero =>
    intro i hi
    refine Ev.step (fun k => ?_) h
    simp only [majordomolaw08_GraphGoes.l0]
    rw [if_neg (by omega), List.replicate_zero, List.append_nil, show i = n by omega]
  | succ d ih =>
    intro i hi
    refine Ev.step (fun k => ?_) (ih (i + 1) (by omega))
    simp only [majordomolaw08_GraphGoes.l0]
    rw [if_pos (by omega), if_pos (by omega), if_pos (by rw [List.length_append, List.length_replicate, List.length_replicate]; omega), wv _ ((i + 1 : Nat) : Int) (by omega) (by omega) (by omega), Int.toNat_natCast, List.set_append_right _ _ (by rw [List.length_replicate]; exact Nat.le_refl _), List.length_replicate, Nat.sub_self, List.replicate_succ, List.set_cons_zero, List.replicate_succ', List.append_assoc]
    rfl
theorem ev_GraphGoes (n : Int) (l : List Ed) (hl : l.length ≤ 9223372036854775807) : Ev (fun k => majordomolaw08_GraphGoes.f k n l) true := by
  obtain ⟨res, hr, A⟩ := order_all n l hl
  unfold majordomolaw08_GraphGoes.f
  refine Ev.bind ev_shown (Ev.bind hr ?_)
  refine Ev.congr (f := fun k => majordomolaw08_GraphGoes.j0 k n l true res.1 (res.2.2 != 0)) (fun k => by rw [if_pos rfl]) ?_
  cases A with
  | bad _ =>
    refine Ev.step (f := fun _ => some true) (fun k => ?_) (Ev.now _)
    simp only [majordomolaw08_GraphGoes.j0]
    rfl
  | cyc _ _ _ _ _ _ =>
    refine Ev.step (f := fun _ => some true) (fun k => ?_) (Ev.now _)
    simp only [majordomolaw08_GraphGoes.j0]
    rfl
  | ok m hm h g o d I ho =>
    subst hm
    have hn := g.n32
    have h2 : ∀ P : List Int, P.length = m → (∀ (p : Nat) (v : Int), o[p]? = some v → rd P v = p) → Ev (fun k => majordomolaw08_GraphGoes.l2 k m l o P 0) true := fun P hP hp =>
      ev_goes_l2 m l hl g o P ho hP (fun u v e => by
        have hr := g.edge e
        have hv := idxG_get (all_in I.nd I.rng ho hr.2.2.1 hr.2.2.2)
        obtain ⟨p, hp1, hu⟩ := I.top u v e _ hv
        rw [hp _ _ hu, hp _ _ hv]
        omega) l.length 0 (by omega)
    have h1 := ev_goes_l1 (l := l) hn o I.nd I.rng ho h2 m 0 (List.replicate m (-1)) (by omega) (by simp) (fun p v hp => by omega) (fun v v0 v1 _ => by
      unfold rd
      rw [List.getD_eq_getElem?_getD, List.getElem?_replicate, if_pos (by omega)]
      rfl)
    refine Ev.step (fun k => ?_) (ev_goes_l0 hn o h1 m 0 (by omega))
    simp only [majordomolaw08_GraphGoes.j0]
    rw [if_neg (by decide), if_pos (by omega), if_pos (by omega), Int.toNat_natCast]
    rfl
end Go.Proofs.Ytkcfjnacnabdaaa.PG
