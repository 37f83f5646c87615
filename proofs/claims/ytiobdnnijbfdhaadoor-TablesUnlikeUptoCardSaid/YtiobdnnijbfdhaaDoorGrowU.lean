/- A region that draws its order, whose first n operations only make memory, and whose others come behind all of these, one by one: a tail may write. -/
import Derived.Test.YtiobdnnijbfdhaaDoorGrowT
import Derived.StillTail
namespace Go.Proofs.YtiobdnnijbfdhaaDoor
open Go.RowKit

section
variable (P : Program) (ops : Array Oper) (rel : World → World → Prop) (dep : Nat → Nat → Bool) (PV : Nat → Option (Value → World → Prop)) (Q : Exit → Act → World → Prop)
def growOkU (n : Nat) : Bool :=
  Region.noSelect ops &&
  (List.range ops.size).all fun i => (List.range ops.size).all fun j =>
    match ops[i]?, ops[j]? with
    | some oi, some oj =>
      (!dep j i || (decide (j < i) && oi.after.toList.any fun e => Region.binds .any e && (e.on == j || dep j e.on))) &&
      (oi.after.toList.all fun e => !Region.binds .any e || decide (e.on < i)) &&
      (!(decide (i < n) && decide (j < n)) || (match oj.dst with | some d => !(oi.looksAt ops).contains d || dep j i | none => true)) &&
      (i == j || oi.dst != oj.dst || oi.dst == none)
    | _, _ => false
end
section
variable {P : Program} {ops : Array Oper} {rel : World → World → Prop} {dep : Nat → Nat → Bool} {PV : Nat → Option (Value → World → Prop)} {Q : Exit → Act → World → Prop}
theorem growOkU_spec {n : Nat} (h : growOkU ops dep n = true) {i j : Nat} {oi oj : Oper} (hi : ops[i]? = some oi) (hj : ops[j]? = some oj) :
    (dep j i = true → j < i ∧ ∃ e ∈ oi.after, Region.binds .any e = true ∧ (e.on = j ∨ dep j e.on = true)) ∧ (i < n → j < n → ∀ d, oj.dst = some d → d ∈ oi.looksAt ops → dep j i = true) ∧ (i ≠ j → ∀ d, oi.dst = some d → oj.dst ≠ some d) ∧ (∀ e ∈ oi.after, Region.binds .any e = true → e.on < i) := by
  have hil : i < ops.size := (Array.getElem?_eq_some_iff.1 hi).1
  have hjl : j < ops.size := (Array.getElem?_eq_some_iff.1 hj).1
  simp only [growOkU, Bool.and_eq_true, List.all_eq_true, List.mem_range] at h
  have := h.2 i hil j hjl
  simp only [hi, hj, Bool.and_eq_true, Bool.or_eq_true, Bool.not_eq_true', decide_eq_true_eq, beq_iff_eq, bne_iff_ne, List.any_eq_true, List.all_eq_true, Array.mem_toList_iff] at this
  obtain ⟨⟨⟨h1, h4⟩, h2⟩, h3⟩ := this
  refine ⟨fun hd => ?_, fun hin hjn d hd hm => ?_, fun hne d hd hd' => ?_, fun e he hb => ?_⟩
  · rcases h1 with h1 | ⟨h1, e, he, hb, h4⟩
    · rw [hd] at h1; cases h1
    · exact ⟨h1, e, he, hb, h4⟩
  · rw [hd] at h2
    simp only [hin, hjn, decide_true, Bool.and_self, Bool.or_eq_true, Bool.not_eq_true'] at h2
    rcases h2 with h0 | h2 | h2
    · cases h0
    · have : (Oper.looksAt ops oi).contains d = true := by simpa using hm
      rw [this] at h2; cases h2
    · exact h2
  · rcases h3 with (h3 | h3) | h3
    · exact hne h3
    · exact h3 (by rw [hd, hd'])
    · rw [hd] at h3; cases h3
  · rcases h4 e he with h5 | h5
    · rw [hb] at h5; cases h5
    · exact h5

theorem grow_anyU (n : Nat) (hok : growOkU ops dep n = true) (hrr : ∀ w, rel w w) (ht : ∀ a b c, rel a b → rel b c → rel a c) (hst : ∀ i V, PV i = some V → ∀ v w1 w2, rel w1 w2 → V v w1 → V v w2)
    (_hn : n < ops.size) (hall : ∀ i j, n ≤ i → i < ops.size → j < n → dep j i = true) (hseq : Region.seqB .any ops (ops.size - n) n (firstN n ops.size) = true) :
    ∀ (fuel : Nat) (listed : Array Bool) (a : Act) (w : World) (F : Nat → World → Prop), listed.size = ops.size → (headOf n ops listed).length = fuel →
      (∀ i o, ops[i]? = some o → listed.getD i true = true → ∀ j, dep j i = true → listed.getD j true = true) →
      (∀ t, n ≤ t → t < ops.size → listed.getD t true = false) →
      (∀ j, F j w) → (∀ j w1 w2, rel w1 w2 → F j w1 → F j w2) → Grow P ops rel dep PV (fun _ a' w' => wpList P ops Q (ops.toList.drop n) a' w') (headOf n ops listed) a w F → wpAny P .any ops Q (fuel + (ops.size - n)) listed a w := by
  have hs : ∀ (i : Nat) (o : Oper) cs b, ops[i]? = some o → o.op ≠ .select cs b := by
    intro i o cs b ho
    have : Region.noSelect ops = true := by simp only [growOkU, Bool.and_eq_true] at hok; exact hok.1
    exact Region.noSelect_spec this i o cs b ho
  intro fuel
  induction fuel with
  | zero =>
    intro listed a w F hsz hlen _ htl hF _ h
    have hr : headOf n ops listed = [] := List.length_eq_zero_iff.1 hlen
    have hfirst := headOf_nil hsz htl hr
    rw [hr] at h
    have h' : wpList P ops Q (ops.toList.drop n) a w := h w (hrr w) hF
    subst hfirst
    have := wpAny_of_seq (md := .any) (Q' := Q) (P := P) (ops := ops) (ops.toList.drop n) n (firstN n ops.size) a w (fun j => by simp [List.getElem?_drop]) (by simpa using hseq) h'
    simpa using this
  | succ fuel ih =>
    intro listed a w F hsz hlen hcl htl hF hFs h
    have hnone : Region.ready .any ops listed ≠ [] := by
      intro he
      obtain ⟨x, hx⟩ := List.exists_mem_of_ne_nil (headOf n ops listed) (fun e => by rw [e] at hlen; cases hlen)
      unfold headOf at hx
      rw [List.mem_filter] at hx
      obtain ⟨hx1, hx2⟩ := hx
      have hx3 : ops[x.2]? = some x.1 := by
        obtain ⟨m, hm, e⟩ := List.mem_iff_getElem.1 hx1
        simp only [List.getElem_zipIdx, Nat.zero_add] at e
        subst e
        simp at hm ⊢
      simp only [Bool.and_eq_true, Bool.not_eq_true'] at hx2
      obtain ⟨i, ⟨hi1, o, hi2⟩, hmin⟩ := least (p := fun i => listed.getD i true = false ∧ ∃ o, ops[i]? = some o) ⟨x.2, hx2.2, x.1, hx3⟩
      have hmem : i ∈ Region.ready .any ops listed := mem_ready.2 ⟨hi1, o, hi2, fun e he hb => by
        have hlt := (growOkU_spec hok hi2 hi2).2.2.2 e he hb
        have hio : i < ops.size := (Array.getElem?_eq_some_iff.1 hi2).1
        have hon : e.on < ops.size := by omega
        cases hg : listed.getD e.on true with
        | false => exact absurd ⟨hg, ops[e.on], Array.getElem?_eq_getElem hon⟩ (hmin _ hlt)
        | true =>
          have hol : e.on < listed.size := by omega
          simpa [Array.getD, hol] using hg⟩
      rw [he] at hmem
      cases hmem
    rw [show fuel + 1 + (ops.size - n) = (fuel + (ops.size - n)) + 1 by omega]
    refine ⟨fun he => absurd he hnone, fun k hk => ?_⟩
    obtain ⟨h0, o, ho, hon⟩ := mem_ready.1 hk
    have hko : k < ops.size := (Array.getElem?_eq_some_iff.1 ho).1
    have hdeps : ∀ j, dep j k = true → listed.getD j true = true := by
      intro j hj
      rcases Nat.lt_or_ge j ops.size with hjl | hjl
      · obtain ⟨_, e, he, hb, hor⟩ := (growOkU_spec hok ho (Array.getElem?_eq_getElem hjl)).1 hj
        have hel := hon e he hb
        have hlt := (growOkU_spec hok ho ho).2.2.2 e he hb
        have hel' : listed.getD e.on true = true := by
          have : e.on < listed.size := by omega
          simpa [Array.getD, this] using hel
        rcases hor with rfl | hor
        · exact hel'
        · exact hcl e.on ops[e.on] (Array.getElem?_eq_getElem (by omega)) hel' j hor
      · have : ¬ j < listed.size := by omega
        simp [Array.getD, this]
    have hkn : k < n := by
      rcases Nat.lt_or_ge k n with h' | h'
      · exact h'
      · exfalso
        have : headOf n ops listed = [] := by
          unfold headOf
          rw [List.filter_eq_nil_iff]
          intro x hx
          simp only [Bool.and_eq_true, decide_eq_true_eq, Bool.not_eq_true', not_and, Bool.not_eq_false]
          intro hxn
          exact hdeps _ (hall k x.2 h' hko hxn)
        rw [this] at hlen
        cases hlen
    obtain ⟨R1, R2, e1, e2, h1⟩ := headOf_split ho hkn h0
    have hkl : k < listed.size := by omega
    have hlen' : (headOf n ops (listed.setIfInBounds k true)).length = fuel := by
      rw [e1] at hlen
      rw [e2]
      simp at hlen ⊢
      omega
    have hcl' : ∀ i o, ops[i]? = some o → (listed.setIfInBounds k true).getD i true = true → ∀ j, dep j i = true → (listed.setIfInBounds k true).getD j true = true := by
      intro i oi hi hl j hj
      by_cases hjk : k = j
      · subst hjk; simp [Array.getD, hkl]
      · rw [getD_set_ne true hjk]
        by_cases hik : k = i
        · subst hik; exact hdeps j hj
        · rw [getD_set_ne true hik] at hl
          exact hcl i oi hi hl j hj
    have htl' : ∀ t, n ≤ t → t < ops.size → (listed.setIfInBounds k true).getD t true = false := fun t h1 h2 => by
      rw [getD_set_ne true (by omega)]
      exact htl t h1 h2
    have hapart : ∀ x ∈ R1, ops[x.2]? = some x.1 ∧ dep x.2 k = false ∧ dep k x.2 = false ∧ x.2 ≠ k ∧ Apart ops x.1 o := by
      intro x hx
      obtain ⟨hlt, hxo, hxl⟩ := h1 x hx
      have s1 := growOkU_spec hok ho hxo
      have s2 := growOkU_spec hok hxo ho
      have d1 : dep x.2 k = false := by
        cases hd : dep x.2 k with
        | false => rfl
        | true => rw [hdeps _ hd] at hxl; cases hxl
      have d2 : dep k x.2 = false := by
        cases hd : dep k x.2 with
        | false => rfl
        | true => have := (s2.1 hd).1; omega
      refine ⟨hxo, d1, d2, by omega, ⟨fun d hd hm => ?_, fun d hd hm => ?_, fun d hd => ?_⟩⟩
      · have := s1.2.1 hkn (by omega) d hd hm; rw [d1] at this; cases this
      · have := s2.2.1 (by omega) hkn d hd hm; rw [d2] at this; cases this
      · exact s2.2.2.1 (by omega) d hd
    rw [e1] at h
    unfold wpOp
    simp only [ho]
    cases hp : PV k with
    | none =>
      obtain ⟨v, hv, hg⟩ := pull_det hs hrr o k ho hp w R2 R1 a F (fun x hx => ⟨(hapart x hx).1, (hapart x hx).2.1, (hapart x hx).2.2.2.2⟩) (fun j _ => hF j) h
      rw [← e2] at hg
      have hnext := ih _ _ w F (by simpa using hsz) hlen' hcl' htl' hF hFs hg
      unfold Runs at hv
      split
      · rename_i hw
        rw [if_pos hw] at hv
        left
        simp only [Oper.wp, hv, Oper.upon]
        exact hnext
      · rename_i hw
        rw [if_neg hw] at hv
        rw [hv] at hnext
        exact hnext
    | some V =>
      obtain ⟨hv, hg⟩ := pull_pred hs hrr o k ho V hp w R2 R1 a F hapart (fun j _ => hF j) h
      have hnext : ∀ v w'', rel w w'' ∧ V v w'' → wpAny P .any ops Q (fuel + (ops.size - n)) (listed.setIfInBounds k true) (a.put o.dst v) w'' := by
        intro v w'' ⟨hrel, hV⟩
        have hg' := hg v
        rw [← e2] at hg'
        refine ih _ _ w'' (upd F k (V v)) (by simpa using hsz) hlen' hcl' htl' ?_ ?_ (Grow.later ht _ _ _ _ _ hrel hg')
        · intro j
          unfold upd
          split
          · exact hV
          · exact hFs j _ _ hrel (hF j)
        · intro j w1 w2 hr2 hx
          unfold upd at hx ⊢
          split
          · rename_i e; rw [if_pos e] at hx; exact hst k V hp v w1 w2 hr2 hx
          · rename_i e; rw [if_neg e] at hx; exact hFs j w1 w2 hr2 hx
      unfold Gives at hv
      split
      · rename_i hw
        rw [if_pos hw] at hv
        left
        exact gives_wp hv hnext
      · rename_i hw
        rw [if_neg hw] at hv
        exact hnext _ _ hv


/-- Every order of a region by one walk: its head in any order, its tail behind it. -/
theorem any_growU {a : Act} {w : World} {l : List Oper} (n : Nat) (rel : World → World → Prop) (PV : Nat → Option (Value → World → Prop)) (hok : growOkU l.toArray (fun j i => ((Region.before l.toArray).getD i 0).testBit j) n = true)
    (hn : decide (n < l.toArray.size) = true) (hall : tailWaits n l.toArray.size (fun j i => ((Region.before l.toArray).getD i 0).testBit j) = true)
    (hseq : Region.seqB .any l.toArray (l.toArray.size - n) n (firstN n l.toArray.size) = true)
    (hrr : ∀ w, rel w w) (ht : ∀ a b c, rel a b → rel b c → rel a c) (hst : ∀ i V, PV i = some V → ∀ v w1 w2, rel w1 w2 → V v w1 → V v w2)
    (h : Grow P l.toArray rel (fun j i => ((Region.before l.toArray).getD i 0).testBit j) PV (fun _ a' w' => wpList P l.toArray Q (l.drop n) a' w') (l.zipIdx.take n) a w.drew (fun _ _ => True)) : wpAny P .any l.toArray Q l.toArray.size (Array.replicate l.toArray.size false) a w.drew := by
  have hn' : n < l.length := by simpa using hn
  have hhead : headOf n l.toArray (Array.replicate l.toArray.size false) = l.zipIdx.take n := by
    unfold headOf
    have hsp : l.toArray.toList.zipIdx = l.zipIdx.take n ++ l.zipIdx.drop n := by simp
    have f1 : (l.zipIdx.take n).filter (fun x => decide (x.2 < n) && !(Array.replicate l.toArray.size false).getD x.2 true) = l.zipIdx.take n := by
      rw [List.filter_eq_self]
      intro x hx
      obtain ⟨m, hm, e⟩ := List.mem_iff_getElem.1 hx
      simp only [List.getElem_take, List.getElem_zipIdx, Nat.zero_add] at e
      subst e
      simp at hm
      simp [Array.getD]
      omega
    have f2 : (l.zipIdx.drop n).filter (fun x => decide (x.2 < n) && !(Array.replicate l.toArray.size false).getD x.2 true) = [] := by
      rw [List.filter_eq_nil_iff]
      intro x hx
      obtain ⟨m, hm, e⟩ := List.mem_iff_getElem.1 hx
      simp only [List.getElem_drop, List.getElem_zipIdx, Nat.zero_add] at e
      subst e
      simp
      omega
    refine (congrArg (List.filter fun x => decide (x.2 < n) && !(Array.replicate l.toArray.size false).getD x.2 true) hsp).trans ?_
    rw [List.filter_append, f1, f2, List.append_nil]
  have := grow_anyU (P := P) (Q := Q) n hok hrr ht hst (by simpa using hn') (fun i j h1 h2 h3 => by
    unfold tailWaits at hall
    have h4 := List.all_eq_true.1 hall i (List.mem_range.2 h2)
    simp only [Bool.or_eq_true, decide_eq_true_eq] at h4
    rcases h4 with h4 | h4
    · omega
    · exact List.all_eq_true.1 h4 j (List.mem_range.2 h3)) hseq n (Array.replicate l.toArray.size false) a w.drew (fun _ _ => True) (by simp) (by rw [hhead]; simp; omega) (fun i o hi hl j _ => by
      have : i < l.length := by have := (Array.getElem?_eq_some_iff.1 hi).1; simpa using this
      simp [Array.getD, this] at hl) (fun t _ h2 => by simp at h2; simp [Array.getD, h2]) (fun _ => trivial) (fun _ _ _ _ _ => trivial) (by rw [hhead]; exact h)
  rw [show n + (l.toArray.size - n) = l.toArray.size by simp; omega] at this
  exact this
theorem wp_region_growU {id : Nat} {a : Act} {w : World} {l : List Oper} (n : Nat) (rel : World → World → Prop) (PV : Nat → Option (Value → World → Prop)) (hm : P.follows .mixedOrders = true)
    (hok : growOkU l.toArray (fun j i => ((Region.before l.toArray).getD i 0).testBit j) n = true)
    (hn : decide (n < l.toArray.size) = true) (hall : tailWaits n l.toArray.size (fun j i => ((Region.before l.toArray).getD i 0).testBit j) = true)
    (hseq : Region.seqB .any l.toArray (l.toArray.size - n) n (firstN n l.toArray.size) = true)
    (hrr : ∀ w, rel w w) (ht : ∀ a b c, rel a b → rel b c → rel a c) (hst : ∀ i V, PV i = some V → ∀ v w1 w2, rel w1 w2 → V v w1 → V v w2)
    (h : Grow P l.toArray rel (fun j i => ((Region.before l.toArray).getD i 0).testBit j) PV (fun _ a' w' => wpList P l.toArray Q (l.drop n) a' w') (l.zipIdx.take n) a w.drew (fun _ _ => True)) : (Code.region id l.toArray true).wp P Q a w :=
  wp_region_any hm (any_growU n rel PV hok hn hall hseq hrr ht hst h)
end
end Go.Proofs.YtiobdnnijbfdhaaDoor
