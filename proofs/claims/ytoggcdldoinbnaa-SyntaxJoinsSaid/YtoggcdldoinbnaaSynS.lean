/- The parser's params, attributes, references and rows. -/
import Derived.Test.YtoggcdldoinbnaaSynV
namespace Go.Proofs.Ytoggcdldoinbnaa
open Go.RowKit
open syn (Tok Nd PS)
set_option linter.unusedVariables false
set_option linter.unusedSimpArgs false

section
variable {F : Nat → Prop} {lo : Nat} {w0 : World} {a : Option Addr} {l : List Tok} {c pb : Nat} {w w' : World} {nv dv nv' dv' : Value} {s : PS}
theorem value_all {K : Nat} (hK : l.length < K) : Part F lo w0 a l c pb 20 K (syn.value K) :=
  value_part (both_part (equal_part (plain_part hK K) (syn.One.plain K K) hK) ((syn.One.plain K K).equalOf K) hK) ((syn.One.plain K K).bothOf K) hK
/-- One more in a slice of the call's own. -/
theorem push_ {we w2 : World} {nv0 dv0 v v2 : Value} {xs : List Nat} {x : Nat} (h : St (fun q => F q ∨ v.ownBlock = some q) lo w0 a l c pb w nv dv s) (hl : Loc F lo w dv v xs) (hv : ∀ q, v.ownBlock = some q → we.heap.size ≤ q) (hW : Wr pb nv0 dv0 we w nv dv)
    (hown : w2.ownsRow lo 3 1 v2 (xs.length + 1) (xs.map natV ++ [natV x])) (hgr : (w.alloc (.cells #[natV x] 3)).grownBy w2 v.ownBlock) (hwh : ∀ g', v2.ownBlock = some g' → v.ownBlock = some g' ∨ (w.alloc (.cells #[natV x] 3)).heap.size ≤ g') :
    Loc F lo w2 dv v2 (xs ++ [x]) ∧ St (fun q => F q ∨ v2.ownBlock = some q) lo w0 a l c pb w2 nv dv s ∧ Wr pb nv0 dv0 we w2 nv dv ∧ ∀ q, v2.ownBlock = some q → we.heap.size ≤ q := by
  have o : Only (fun q => v.ownBlock = some q) w w2 := ((Only.refl (fun q => v.ownBlock = some q) w).alloc _).grown hgr (fun q e => .inl e)
  obtain ⟨kv, h1, h2, h3⟩ := h.nodes
  have hsz : w.heap.size ≤ (w.alloc (.cells #[natV x] 3)).heap.size := by simp
  have hwe := hW.only.size
  have hdl := h.depth.lt
  have hvk : ∀ q, v.ownBlock = some q → ∃ c2 z2, w.heap[q]? = some (.cells c2 3 z2) := fun q e => Lib.ownsRow_kind hl.1 q e
  have hpb : v.ownBlock ≠ some pb := fun e => by
    obtain ⟨c2, z2, h4⟩ := hvk pb e
    exact absurd (two_ty h.cells h4) (by decide)
  have hnv : ∀ q, nv.ownBlock = some q → v.ownBlock ≠ some q := fun q e e2 => by
    obtain ⟨c2, z2, h4⟩ := hvk q e2
    obtain ⟨c5, z5, h5⟩ := Lib.ownsRow_kind h2 q e
    exact absurd (two_ty h4 h5) (by decide)
  refine ⟨⟨by simpa using hown, fun q e => ?_⟩, ⟨o.below h.below h.hlo (fun i e => (hl.1.lt i e).1), Nat.le_trans h.hlo o.size, h.hpb, h.words, h.few, o.keeps h.cells hpb, h.pos, ⟨kv, h1, own_keep h2 o hnv, fun i nd u h4 h5 => ?_⟩, own_keep h.depth o (fun q e e2 => (hl.2 q e2).1 e), h.same, h.small, h.deep, fun q e => ?_⟩, ?_, fun q e => ?_⟩
  · rcases hwh q e with h4 | h4
    · exact hl.2 q h4
    · exact ⟨fun e2 => by have := (hdl q e2).2; omega, fun e2 => by have := h.fin q (.inl e2); omega⟩
  · rcases h3 i nd u h4 h5 with h6 | ⟨g, cc, cur, e, h7, h8, h9, h10, h11⟩
    · exact .inl h6
    · refine .inr ⟨g, cc, cur, e, h7, o.keeps h8 (fun e2 => h11 (.inr e2)), h9, h10, fun e2 => ?_⟩
      rcases e2 with e2 | e2
      · exact h11 (.inl e2)
      · rcases hwh g e2 with h12 | h12
        · exact h11 (.inr h12)
        · have := lt_of_heap h8; omega
  · rcases e with e | e
    · exact Nat.lt_of_lt_of_le (h.fin q (.inl e)) o.size
    · exact (hown.lt q e).2
  · refine ⟨⟨o.os.trans hW.only.os, o.tape.trans hW.only.tape, o.output.trans hW.only.output, Nat.le_trans hW.only.size o.size, fun i hi hs => (o.block i (by omega) (fun e => by have := hv i e; omega)).trans (hW.only.block i hi hs)⟩, hW.hn, hW.hd⟩
  · rcases hwh q e with h4 | h4
    · exact hv q h4
    · omega

set_option maxRecDepth 20000 in
set_option maxHeartbeats 4000000 in
theorem param_all {K : Nat} (hK : l.length < K) : Part F lo w0 a l c pb 35 K (syn.param K) := by
  intro w nv dv s h hsm hfu
  have HV := Lib.hid (value_all (F := F) (lo := lo) (w0 := w0) (a := a) (l := l) (c := c) (pb := pb) hK)
  have H := Lib.hid h
  have W0 := Lib.hid (Wr.refl pb nv dv w)
  have EQ0 := Lib.hid (show syn.param K l s = ((syn.any 3).bind fun t => (syn.may 7 ⟨#[61]⟩).bind fun b => if b = true then (syn.value K).bind fun x => syn.node 4 t [x] else syn.node 4 t []) l s from rfl)
  clear h
  go_enter Try.func35, Try.ntmps35
  go_wp2_with fail
  refine (any_calls H.out 3 (by decide)).mono ?_
  rintro e w1 ⟨nv1, dv1, hw1, hr1⟩
  have W1 := Lib.hid (W0.out.trans hw1)
  have HW1 := Lib.hid hw1
  clear hw1
  cases hp1 : syn.any 3 l s with
  | bad q =>
    rw [hp1] at hr1
    obtain ⟨rfl, s', hq, hs⟩ := hr1
    exact ⟨rfl, post_bad (EQ0.out.trans (bind_bad hp1)) W1.out hq hs⟩
  | ok x1 s1 =>
    rw [hp1] at hr1
    obtain ⟨v1, rfl, rfl, hs⟩ := hr1
    have S1 := Lib.hid hs
    have hc1 := syn.Costs.any 3 l s x1 s1 hp1
    try simp only at hc1
    have hE := EQ0.out.trans (bind_ok hp1)
    try simp only [if_true, if_false, Bool.false_eq_true, Option.isSome] at hE
    have EQ1 := Lib.hid hE
    clear hE
    clear hs hp1
    rcases may_cases (l := l) (s := s1) 7 (by decide) ⟨#[61]⟩ with ⟨hpl2, hm2⟩ | hm2
    · have HC2 := may_calls S1.out 7 (by decide) ⟨#[61]⟩
      rw [hm2] at HC2
      have HC2 := Lib.hid HC2
      have hE := EQ1.out.trans (bind_ok hm2)
      try simp only [if_true, if_false, Bool.false_eq_true, Option.isSome] at hE
      have EQ2 := Lib.hid hE
      clear hE
      clear hm2
      obtain ⟨s2, hs2⟩ : ∃ q, q = ({ s1 with at_ := s1.at_ + 1 } : PS) := ⟨_, rfl⟩
      have ha2 : s2.at_ ≤ s1.at_ + 1 ∧ s1.at_ + 1 ≤ s2.at_ := by rw [hs2]; exact ⟨Nat.le_refl _, Nat.le_refl _⟩
      have hnl2 : s2.n.length ≤ s1.n.length ∧ s1.n.length ≤ s2.n.length := by rw [hs2]; exact ⟨Nat.le_refl _, Nat.le_refl _⟩
      rw [← hs2] at EQ2 HC2
      clear hs2
      go_wp2_with fail
      refine HC2.out.mono ?_
      rintro e w2 ⟨nv2, dv2, hw2, v2, rfl, rfl, hs2⟩
      have W2 := Lib.hid (W1.out.trans hw2)
      have S2 := Lib.hid hs2
      clear hw2 hs2 HC2
      go_wp2_with fail
      refine (HV.out w2 nv2 dv2 _ S2.out (by omega) (by omega)).mono ?_
      rintro e w3 ⟨nv3, dv3, hw3, hr3⟩
      have W3 := Lib.hid (W2.out.trans hw3)
      have HW3 := Lib.hid hw3
      clear hw3
      cases hp3 : (syn.value K) l s2 with
      | bad q =>
        rw [hp3] at hr3
        obtain ⟨rfl, s', hq, hs⟩ := hr3
        exact ⟨rfl, post_bad (EQ2.out.trans (bind_bad hp3)) W3.out hq hs⟩
      | ok x3 s3 =>
        rw [hp3] at hr3
        obtain ⟨v3, rfl, rfl, hs⟩ := hr3
        have S3 := Lib.hid hs
        have hc3 := (syn.One.value K).get hp3
        try simp only at hc3
        have hE := EQ2.out.trans (bind_ok hp3)
        try simp only [if_true, if_false, Bool.false_eq_true, Option.isSome] at hE
        have EQ3 := Lib.hid hE
        clear hE
        clear hs hp3
        go_wp2_with fail
        have o4 := (Only.refl (fun _ => False) w3).alloc (.cells #[natV x3] 3)
        have K4 := Lib.hid (show KidsOk F lo (w3.alloc (.cells #[natV x3] 3)) dv3 (.slice (some ⟨w3.heap.size, 0, none⟩) 1 1) [x3] from .inr ⟨w3.heap.size, 1, _, rfl, S3.out.hlo, heap_alloc_new w3 _, fun i k hi => get1_ (x3) i k hi, fun e => by have := (S3.out.depth.lt _ e).2; omega, fun e => by have := S3.out.fin _ e; omega⟩)
        have S4 := Lib.hid (S3.out.grow o4)
        have W4 := Lib.hid (W3.out.trans (Wr.same nv3 dv3 o4))
        refine (node_calls S4.out 4 x1 (.slice (some ⟨w3.heap.size, 0, none⟩) 1 1) [x3] K4.out (fun k hk => by simp at hk; first | omega | (rcases hk with rfl | rfl <;> omega) | (rcases hk with rfl | rfl | rfl <;> omega)) (by omega) (by simp)).mono ?_
        rintro e w5 ⟨nv5, dv5, hw5, v5, rfl, rfl, hs5⟩
        have W5 := Lib.hid (W4.out.trans hw5)
        have S5 := Lib.hid hs5
        clear hw5 hs5
        go_wp2_with fail
        go_ret
        exact post_ok (EQ3.out.trans rfl) W5.out rfl S5.out
    · have HC2 := may_calls S1.out 7 (by decide) ⟨#[61]⟩
      rw [hm2] at HC2
      have HC2 := Lib.hid HC2
      have hE := EQ1.out.trans (bind_ok hm2)
      try simp only [if_true, if_false, Bool.false_eq_true, Option.isSome] at hE
      have EQ2 := Lib.hid hE
      clear hE
      clear hm2
      go_wp2_with fail
      refine HC2.out.mono ?_
      rintro e w2 ⟨nv2, dv2, hw2, v2, rfl, rfl, hs2⟩
      have W2 := Lib.hid (W1.out.trans hw2)
      have S2 := Lib.hid hs2
      clear hw2 hs2 HC2
      go_wp2_with fail
      refine (node_calls S2.out 4 x1 (.slice none 0 0) [] (.inl ⟨rfl, none, 0, rfl⟩) (fun k hk => by cases hk) (by omega) (by simp)).mono ?_
      rintro e w6 ⟨nv6, dv6, hw6, v6, rfl, rfl, hs6⟩
      have W6 := Lib.hid (W2.out.trans hw6)
      have S6 := Lib.hid hs6
      clear hw6 hs6
      go_wp2_with fail
      go_ret
      exact post_ok (EQ2.out.trans rfl) W6.out rfl S6.out

set_option maxRecDepth 20000 in
set_option maxHeartbeats 4000000 in
theorem ref_all {K : Nat} (hK : l.length < K) : Part F lo w0 a l c pb 41 K (syn.ref K) := by
  intro w nv dv s h hsm hfu
  have HV := Lib.hid (value_all (F := F) (lo := lo) (w0 := w0) (a := a) (l := l) (c := c) (pb := pb) hK)
  have H := Lib.hid h
  have W0 := Lib.hid (Wr.refl pb nv dv w)
  have EQ0 := Lib.hid (show syn.ref K l s = ((syn.any 2).bind fun t => (syn.must ⟨#[91]⟩).bind fun _ => (syn.value K).bind fun x => (syn.must ⟨#[93]⟩).bind fun _ => syn.node 11 t [x]) l s from rfl)
  clear h
  go_enter Try.func41, Try.ntmps41
  go_wp2_with fail
  refine (any_calls H.out 2 (by decide)).mono ?_
  rintro e w1 ⟨nv1, dv1, hw1, hr1⟩
  have W1 := Lib.hid (W0.out.trans hw1)
  have HW1 := Lib.hid hw1
  clear hw1
  cases hp1 : syn.any 2 l s with
  | bad q =>
    rw [hp1] at hr1
    obtain ⟨rfl, s', hq, hs⟩ := hr1
    exact ⟨rfl, post_bad (EQ0.out.trans (bind_bad hp1)) W1.out hq hs⟩
  | ok x1 s1 =>
    rw [hp1] at hr1
    obtain ⟨v1, rfl, rfl, hs⟩ := hr1
    have S1 := Lib.hid hs
    have hc1 := syn.Costs.any 2 l s x1 s1 hp1
    try simp only at hc1
    have hE := EQ0.out.trans (bind_ok hp1)
    try simp only [if_true, if_false, Bool.false_eq_true, Option.isSome] at hE
    have EQ1 := Lib.hid hE
    clear hE
    clear hs hp1
    go_wp2_with fail
    refine (must_calls S1.out ⟨#[91]⟩).mono ?_
    rintro e w2 ⟨nv2, dv2, hw2, hr2⟩
    have W2 := Lib.hid (W1.out.trans hw2)
    have HW2 := Lib.hid hw2
    clear hw2
    cases hp2 : syn.must ⟨#[91]⟩ l s1 with
    | bad q =>
      rw [hp2] at hr2
      obtain ⟨rfl, s', hq, hs⟩ := hr2
      exact ⟨rfl, post_bad (EQ1.out.trans (bind_bad hp2)) W2.out hq hs⟩
    | ok x2 s2 =>
      rw [hp2] at hr2
      obtain ⟨v2, rfl, rfl, hs⟩ := hr2
      have S2 := Lib.hid hs
      have hc2 := syn.Costs.must ⟨#[91]⟩ l s1 x2 s2 hp2
      try simp only at hc2
      have hE := EQ1.out.trans (bind_ok hp2)
      try simp only [if_true, if_false, Bool.false_eq_true, Option.isSome] at hE
      have EQ2 := Lib.hid hE
      clear hE
      clear hs hp2
      go_wp2_with fail
      refine (HV.out w2 nv2 dv2 _ S2.out (by omega) (by omega)).mono ?_
      rintro e w3 ⟨nv3, dv3, hw3, hr3⟩
      have W3 := Lib.hid (W2.out.trans hw3)
      have HW3 := Lib.hid hw3
      clear hw3
      cases hp3 : (syn.value K) l s2 with
      | bad q =>
        rw [hp3] at hr3
        obtain ⟨rfl, s', hq, hs⟩ := hr3
        exact ⟨rfl, post_bad (EQ2.out.trans (bind_bad hp3)) W3.out hq hs⟩
      | ok x3 s3 =>
        rw [hp3] at hr3
        obtain ⟨v3, rfl, rfl, hs⟩ := hr3
        have S3 := Lib.hid hs
        have hc3 := (syn.One.value K).get hp3
        try simp only at hc3
        have hE := EQ2.out.trans (bind_ok hp3)
        try simp only [if_true, if_false, Bool.false_eq_true, Option.isSome] at hE
        have EQ3 := Lib.hid hE
        clear hE
        clear hs hp3
        go_wp2_with fail
        refine (must_calls S3.out ⟨#[93]⟩).mono ?_
        rintro e w4 ⟨nv4, dv4, hw4, hr4⟩
        have W4 := Lib.hid (W3.out.trans hw4)
        have HW4 := Lib.hid hw4
        clear hw4
        cases hp4 : syn.must ⟨#[93]⟩ l s3 with
        | bad q =>
          rw [hp4] at hr4
          obtain ⟨rfl, s', hq, hs⟩ := hr4
          exact ⟨rfl, post_bad (EQ3.out.trans (bind_bad hp4)) W4.out hq hs⟩
        | ok x4 s4 =>
          rw [hp4] at hr4
          obtain ⟨v4, rfl, rfl, hs⟩ := hr4
          have S4 := Lib.hid hs
          have hc4 := syn.Costs.must ⟨#[93]⟩ l s3 x4 s4 hp4
          try simp only at hc4
          have hE := EQ3.out.trans (bind_ok hp4)
          try simp only [if_true, if_false, Bool.false_eq_true, Option.isSome] at hE
          have EQ4 := Lib.hid hE
          clear hE
          clear hs hp4
          go_wp2_with fail
          have o5 := (Only.refl (fun _ => False) w4).alloc (.cells #[natV x3] 3)
          have K5 := Lib.hid (show KidsOk F lo (w4.alloc (.cells #[natV x3] 3)) dv4 (.slice (some ⟨w4.heap.size, 0, none⟩) 1 1) [x3] from .inr ⟨w4.heap.size, 1, _, rfl, S4.out.hlo, heap_alloc_new w4 _, fun i k hi => get1_ (x3) i k hi, fun e => by have := (S4.out.depth.lt _ e).2; omega, fun e => by have := S4.out.fin _ e; omega⟩)
          have S5 := Lib.hid (S4.out.grow o5)
          have W5 := Lib.hid (W4.out.trans (Wr.same nv4 dv4 o5))
          refine (node_calls S5.out 11 x1 (.slice (some ⟨w4.heap.size, 0, none⟩) 1 1) [x3] K5.out (fun k hk => by simp at hk; first | omega | (rcases hk with rfl | rfl <;> omega) | (rcases hk with rfl | rfl | rfl <;> omega)) (by omega) (by simp)).mono ?_
          rintro e w6 ⟨nv6, dv6, hw6, v6, rfl, rfl, hs6⟩
          have W6 := Lib.hid (W5.out.trans hw6)
          have S6 := Lib.hid hs6
          clear hw6 hs6
          go_wp2_with fail
          go_ret
          exact post_ok (EQ4.out.trans rfl) W6.out rfl S6.out

set_option maxRecDepth 20000 in
set_option maxHeartbeats 4000000 in
theorem attr_all {K : Nat} (hK : l.length < K) : Part F lo w0 a l c pb 27 K (syn.attr K) := by
  intro w nv dv s h hsm hfu
  have HV := Lib.hid (value_all (F := F) (lo := lo) (w0 := w0) (a := a) (l := l) (c := c) (pb := pb) hK)
  have H := Lib.hid h
  have W0 := Lib.hid (Wr.refl pb nv dv w)
  have EQ0 := Lib.hid (show syn.attr K l s = (syn.peek.bind fun u => if syn.colon u.2 = true then syn.fail else (syn.any 1).bind fun t => (syn.must ⟨#[61, 62]⟩).bind fun _ => (syn.value K).bind fun x => syn.node 9 t [x]) l s from rfl)
  clear h
  have hfd := fld1_
  have HN := Lib.hid (next_calls H.out)
  have HCN := Lib.hid (fun w => sh_strings_Contains_one (syn.next l s).2 58 w)
  obtain ⟨y, hy⟩ : ∃ y, syn.colon (syn.next l s).2 = y := ⟨_, rfl⟩
  have hcy : decide (0 ≤ Lib.indexByte (syn.next l s).2.data.toList 58) = y := hy
  rw [hcy] at HCN
  have HY := Lib.hid hy
  clear hy hcy
  cases y with
  | true =>
    go_enter Try.func27, Try.ntmps27
    go_wp2_with fail
    refine HN.out.mono ?_
    rintro e w1 ⟨q1, rfl, o1⟩
    have S1 := Lib.hid (H.out.grow o1)
    have W1 := Lib.hid (W0.out.trans (Wr.same (pb := pb) nv dv o1))
    clear o1
    go_wp2_with fail
    refine (HCN.out _).mono ?_
    rintro e w2 ⟨rfl, rfl⟩
    go_wp2_with fail
    refine (sure_no _ _).mono ?_
    rintro e w3 ⟨rfl, rfl⟩
    refine ⟨rfl, post_bad (s' := s) ?_ W1.out rfl S1.out⟩
    show (if syn.colon (syn.next l s).2 = true then syn.fail else _ : syn.Pr Nat) l s = _
    rw [if_pos HY.out]
    rfl
  | false =>
    go_enter Try.func27, Try.ntmps27
    go_wp2_with fail
    refine HN.out.mono ?_
    rintro e w1 ⟨q1, rfl, o1⟩
    have S1 := Lib.hid (H.out.grow o1)
    have W1 := Lib.hid (W0.out.trans (Wr.same (pb := pb) nv dv o1))
    clear o1
    go_wp2_with fail
    refine (HCN.out _).mono ?_
    rintro e w2 ⟨rfl, rfl⟩
    go_wp2_with fail
    refine (sure_yes _ _).mono ?_
    rintro e w3 ⟨rfl, rfl⟩
    have EQ1 := Lib.hid (show syn.attr K l s = ((syn.any 1).bind fun t => (syn.must ⟨#[61, 62]⟩).bind fun _ => (syn.value K).bind fun x => syn.node 9 t [x]) l s from by
      show (if syn.colon (syn.next l s).2 = true then syn.fail else _ : syn.Pr Nat) l s = _
      rw [if_neg (by rw [HY.out]; decide)])
    go_wp2_with fail
    refine (any_calls S1.out 1 (by decide)).mono ?_
    rintro e w2 ⟨nv2, dv2, hw2, hr2⟩
    have W2 := Lib.hid (W1.out.trans hw2)
    have HW2 := Lib.hid hw2
    clear hw2
    cases hp2 : syn.any 1 l s with
    | bad q =>
      rw [hp2] at hr2
      obtain ⟨rfl, s', hq, hs⟩ := hr2
      exact ⟨rfl, post_bad (EQ1.out.trans (bind_bad hp2)) W2.out hq hs⟩
    | ok x2 s2 =>
      rw [hp2] at hr2
      obtain ⟨v2, rfl, rfl, hs⟩ := hr2
      have S2 := Lib.hid hs
      have hc2 := syn.Costs.any 1 l s x2 s2 hp2
      try simp only at hc2
      have hE := EQ1.out.trans (bind_ok hp2)
      try simp only [if_true, if_false, Bool.false_eq_true, Option.isSome] at hE
      have EQ2 := Lib.hid hE
      clear hE
      clear hs hp2
      go_wp2_with fail
      refine (must_calls S2.out ⟨#[61, 62]⟩).mono ?_
      rintro e w3 ⟨nv3, dv3, hw3, hr3⟩
      have W3 := Lib.hid (W2.out.trans hw3)
      have HW3 := Lib.hid hw3
      clear hw3
      cases hp3 : syn.must ⟨#[61, 62]⟩ l s2 with
      | bad q =>
        rw [hp3] at hr3
        obtain ⟨rfl, s', hq, hs⟩ := hr3
        exact ⟨rfl, post_bad (EQ2.out.trans (bind_bad hp3)) W3.out hq hs⟩
      | ok x3 s3 =>
        rw [hp3] at hr3
        obtain ⟨v3, rfl, rfl, hs⟩ := hr3
        have S3 := Lib.hid hs
        have hc3 := syn.Costs.must ⟨#[61, 62]⟩ l s2 x3 s3 hp3
        try simp only at hc3
        have hE := EQ2.out.trans (bind_ok hp3)
        try simp only [if_true, if_false, Bool.false_eq_true, Option.isSome] at hE
        have EQ3 := Lib.hid hE
        clear hE
        clear hs hp3
        go_wp2_with fail
        refine (HV.out w3 nv3 dv3 _ S3.out (by omega) (by omega)).mono ?_
        rintro e w4 ⟨nv4, dv4, hw4, hr4⟩
        have W4 := Lib.hid (W3.out.trans hw4)
        have HW4 := Lib.hid hw4
        clear hw4
        cases hp4 : (syn.value K) l s3 with
        | bad q =>
          rw [hp4] at hr4
          obtain ⟨rfl, s', hq, hs⟩ := hr4
          exact ⟨rfl, post_bad (EQ3.out.trans (bind_bad hp4)) W4.out hq hs⟩
        | ok x4 s4 =>
          rw [hp4] at hr4
          obtain ⟨v4, rfl, rfl, hs⟩ := hr4
          have S4 := Lib.hid hs
          have hc4 := (syn.One.value K).get hp4
          try simp only at hc4
          have hE := EQ3.out.trans (bind_ok hp4)
          try simp only [if_true, if_false, Bool.false_eq_true, Option.isSome] at hE
          have EQ4 := Lib.hid hE
          clear hE
          clear hs hp4
          go_wp2_with fail
          have o5 := (Only.refl (fun _ => False) w4).alloc (.cells #[natV x4] 3)
          have K5 := Lib.hid (show KidsOk F lo (w4.alloc (.cells #[natV x4] 3)) dv4 (.slice (some ⟨w4.heap.size, 0, none⟩) 1 1) [x4] from .inr ⟨w4.heap.size, 1, _, rfl, S4.out.hlo, heap_alloc_new w4 _, fun i k hi => get1_ (x4) i k hi, fun e => by have := (S4.out.depth.lt _ e).2; omega, fun e => by have := S4.out.fin _ e; omega⟩)
          have S5 := Lib.hid (S4.out.grow o5)
          have W5 := Lib.hid (W4.out.trans (Wr.same nv4 dv4 o5))
          refine (node_calls S5.out 9 x2 (.slice (some ⟨w4.heap.size, 0, none⟩) 1 1) [x4] K5.out (fun k hk => by simp at hk; first | omega | (rcases hk with rfl | rfl <;> omega) | (rcases hk with rfl | rfl | rfl <;> omega)) (by omega) (by simp)).mono ?_
          rintro e w6 ⟨nv6, dv6, hw6, v6, rfl, rfl, hs6⟩
          have W6 := Lib.hid (W5.out.trans hw6)
          have S6 := Lib.hid hs6
          clear hw6 hs6
          go_wp2_with fail
          go_ret
          exact post_ok (EQ4.out.trans rfl) W6.out rfl S6.out

/-- A row of nodes was read. -/
def PostL (F : Nat → Prop) (lo : Nat) (w0 : World) (a : Option Addr) (l : List Tok) (c pb : Nat) (r : syn.Res (List Nat)) (nv dv : Value) (w : World) : Ending → World → Prop := fun e w' => ∃ nv' dv', Wr pb nv dv w w' nv' dv' ∧ match r with
  | .ok xs s' => ∃ v, e = .returned v ∧ Loc F lo w' dv' v xs ∧ St (fun q => F q ∨ v.ownBlock = some q) lo w0 a l c pb w' nv' dv' s' ∧ ∀ q, v.ownBlock = some q → w.heap.size ≤ q
  | .bad q => e = wrongE ∧ ∃ s', s'.at_ = q ∧ St F lo w0 a l c pb w' nv' dv' s'
theorem postL_ok {r : syn.Res (List Nat)} {xs : List Nat} {s' : PS} (hr : r = .ok xs s') {nv' dv' v : Value} (hw : Wr pb nv dv w w' nv' dv') (hl : Loc F lo w' dv' v xs) (hs : St (fun q => F q ∨ v.ownBlock = some q) lo w0 a l c pb w' nv' dv' s') (hv : ∀ q, v.ownBlock = some q → w.heap.size ≤ q) : PostL F lo w0 a l c pb r nv dv w (.returned v) w' :=
  ⟨nv', dv', hw, by rw [hr]; exact ⟨v, rfl, hl, hs, hv⟩⟩
theorem postL_bad {r : syn.Res (List Nat)} {q : Nat} {s' : PS} (hr : r = .bad q) {nv' dv' : Value} (hw : Wr pb nv dv w w' nv' dv') (hq : s'.at_ = q) (hs : St F lo w0 a l c pb w' nv' dv' s') : PostL F lo w0 a l c pb r nv dv w wrongE w' :=
  ⟨nv', dv', hw, by rw [hr]; exact ⟨rfl, s', hq, hs⟩⟩
theorem St.none_ (h : St F lo w0 a l c pb w nv dv s) : St (fun q => F q ∨ (Value.slice none 0 0).ownBlock = some q) lo w0 a l c pb w nv dv s := h.less (fun q e => by
  rcases e with e | e
  · exact e
  · cases e)

set_option maxRecDepth 20000 in
set_option maxHeartbeats 4000000 in
theorem row_param {k K : Nat} {one : syn.Pr Nat} (hone : ∀ F, Part F lo w0 a l c pb 35 k one) (ho : syn.One one) (hK : l.length < K) (fin : ByteArray) (h : St F lo w0 a l c pb w nv dv s) (hsm : s.n.length ≤ 2 * s.at_) (hfu : l.length - s.at_ < k) :
    Calls Try.prog 26 #[ptr pb, .func (.func 35) #[ptr pb] #[], .string fin] w fun e w' => PostL F lo w0 a l c pb (syn.row K one fin l s) nv dv w e w' := by
  have HP := Lib.hid hone
  have H := Lib.hid h
  have W0 := Lib.hid (Wr.refl pb nv dv w)
  have EQ0 := Lib.hid (show syn.row K one fin l s = ((syn.may 7 fin).bind fun b => if b = true then syn.Pr.pure [] else syn.rowGo one fin K []) l s from rfl)
  obtain ⟨i1, hi1⟩ := int_info
  have HJ := Lib.hid hi1
  have hfew := h.few
  clear h hone hi1
  go_enter Try.func26, Try.ntmps26
  rcases may_cases (l := l) (s := s) 7 (by decide) fin with ⟨hpl1, hm1⟩ | hm1
  · have HC1 := may_calls H.out 7 (by decide) fin
    rw [hm1] at HC1
    have HC1 := Lib.hid HC1
    have hE := EQ0.out.trans (bind_ok hm1)
    try simp only [if_true, if_false, Bool.false_eq_true, Option.isSome] at hE
    have EQ1 := Lib.hid hE
    clear hE
    clear hm1
    obtain ⟨s1, hs1⟩ : ∃ q, q = ({ s with at_ := s.at_ + 1 } : PS) := ⟨_, rfl⟩
    have ha1 : s1.at_ ≤ s.at_ + 1 ∧ s.at_ + 1 ≤ s1.at_ := by rw [hs1]; exact ⟨Nat.le_refl _, Nat.le_refl _⟩
    have hnl1 : s1.n.length ≤ s.n.length ∧ s.n.length ≤ s1.n.length := by rw [hs1]; exact ⟨Nat.le_refl _, Nat.le_refl _⟩
    rw [← hs1] at EQ1 HC1
    clear hs1
    go_wp2_with fail
    refine HC1.out.mono ?_
    rintro e w1 ⟨nv1, dv1, hw1, v1, rfl, rfl, hs1⟩
    have W1 := Lib.hid (W0.out.trans hw1)
    have S1 := Lib.hid hs1
    clear hw1 hs1 HC1
    go_wp2_with fail
    go_ret
    exact postL_ok (EQ1.out.trans rfl) W1.out (Loc.nil F lo _ _) S1.out.none_ (fun q e => by cases e)
  · have HC1 := may_calls H.out 7 (by decide) fin
    rw [hm1] at HC1
    have HC1 := Lib.hid HC1
    have hE := EQ0.out.trans (bind_ok hm1)
    try simp only [if_true, if_false, Bool.false_eq_true, Option.isSome] at hE
    have EQ1 := Lib.hid hE
    clear hE
    clear hm1
    go_wp2_with fail
    refine HC1.out.mono ?_
    rintro e w1 ⟨nv1, dv1, hw1, v1, rfl, rfl, hs1⟩
    have W1 := Lib.hid (W0.out.trans hw1)
    have S1 := Lib.hid hs1
    clear hw1 hs1 HC1
    go_wp2_with fail
    go_loopg [6] (l.length) (fun gg v6 wr => ∃ (f : Nat) (xs : List Nat) (s1 : PS) (nv1 dv1 lv : Value), v6 = lv ∧ l.length - s1.at_ ≤ gg ∧ l.length - s1.at_ < f ∧ (∀ x ∈ xs, x < s1.n.length) ∧ s1.n.length ≤ 2 * s1.at_ ∧ s.at_ ≤ s1.at_ ∧ xs.length ≤ s1.at_ ∧ Hid (Loc F lo wr dv1 lv xs) ∧ Hid (St (fun q => F q ∨ lv.ownBlock = some q) lo w0 a l c pb wr nv1 dv1 s1) ∧ Hid (Wr pb nv dv w wr nv1 dv1) ∧ Hid (∀ q, lv.ownBlock = some q → w.heap.size ≤ q) ∧ Hid (syn.row K one fin l s = syn.rowGo one fin f xs l s1))
    case atStart => exact ⟨K, [], s, nv1, dv1, .slice none 0 0, rfl, by omega, by omega, (fun x hx => by cases hx), hsm, Nat.le_refl _, by simp, Lib.hid (Loc.nil F lo _ _), Lib.hid S1.out.none_, W1, Lib.hid (fun q e => by cases e), EQ1⟩
    case round =>
      clear S1 W1 EQ1
      obtain ⟨f, xs, s20, nv20, dv20, lv, rfl, hgk, hf, hxs, hn20, ha20, hxl, LC20, S20, W20, FR20, EQ20⟩ := hrel
      obtain ⟨f, rfl⟩ : ∃ f', f = f' + 1 := ⟨f - 1, by omega⟩
      have hp20 := S20.out.pos
      have hxl9 : xs.length + 1 ≤ 9000 := by omega
      have HXL := Lib.hid hxl9
      clear hxl9
      have EQ21 := Lib.hid (EQ20.out.trans (show syn.rowGo one fin (f + 1) xs l s20 = (one.bind fun x => (syn.may 7 ⟨#[44]⟩).bind fun b => if b = true then syn.rowGo one fin f (xs ++ [x]) else (syn.must fin).bind fun _ => syn.Pr.pure (xs ++ [x])) l s20 from rfl))
      go_wp2_with fail
      refine (HP.out (fun q => F q ∨ u6.ownBlock = some q) wr nv20 dv20 s20 S20.out hn20 (by omega)).mono ?_
      rintro e w31 ⟨nv31, dv31, hw31, hr31⟩
      have W31 := Lib.hid (W20.out.trans hw31)
      have HW31 := Lib.hid hw31
      clear hw31
      cases hp31 : one l s20 with
      | bad q =>
        rw [hp31] at hr31
        obtain ⟨rfl, s', hq, hs⟩ := hr31
        exact ⟨rfl, postL_bad (EQ21.out.trans (bind_bad hp31)) W31.out hq (hs.less (fun q e => Or.inl e))⟩
      | ok x31 s31 =>
        rw [hp31] at hr31
        obtain ⟨v31, rfl, rfl, hs⟩ := hr31
        have S31 := Lib.hid hs
        have hc31 := ho.get hp31
        try simp only at hc31
        have hE := EQ21.out.trans (bind_ok hp31)
        try simp only [if_true, if_false, Bool.false_eq_true, Option.isSome] at hE
        have EQ31 := Lib.hid hE
        clear hE
        have LC20_31 := Lib.hid (S20.out.loc LC20.out HW31.out)
        clear hs hp31
        go_upto_region 4 with (at_builtin; refine wpList_append_any rfl (.tmp 10) (.tmp 13) 31 rfl lo 3 i1 (.int .i64 0) 1 8 Try.underlying31 HJ.out.1 HJ.out.2.1 HJ.out.2.2.1 HJ.out.2.2.2 rfl (by decide) u6 (xs).length _ rfl (LC20_31.out.1.alloc _) ⟨w31.heap.size, 0, none⟩ 1 1 (by decide) [natV x31] rfl rfl (new_cells w31 _ _) (by simp [Value.oneCell']) (by have := HXL.out; unfold maxLen; simp at this ⊢; omega) (by have := HXL.out; simp at this ⊢; omega) (by have := S31.out.hlo; simp; omega) ?_; intro vv32 w32 hown32 hgr32 hwh32; obtain ⟨gq32, cp32, rfl⟩ := Joins.ownsRow_form hown32 (by omega))
        obtain ⟨hl32, hs32, hw32, hf32⟩ := push_ S31.out LC20_31.out FR20.out W31.out hown32 hgr32 hwh32
        have LC32 := Lib.hid hl32
        have S32 := Lib.hid hs32
        have W32 := Lib.hid hw32
        have FR32 := Lib.hid hf32
        clear hl32 hs32 hw32 hf32 hown32 hgr32 hwh32
        rcases may_cases (l := l) (s := s31) 7 (by decide) ⟨#[44]⟩ with ⟨hpl33, hm33⟩ | hm33
        · have HC33 := may_calls S32.out 7 (by decide) ⟨#[44]⟩
          rw [hm33] at HC33
          have HC33 := Lib.hid HC33
          have hE := EQ31.out.trans (bind_ok hm33)
          try simp only [if_true, if_false, Bool.false_eq_true, Option.isSome] at hE
          have EQ33 := Lib.hid hE
          clear hE
          clear hm33
          obtain ⟨s33, hs33⟩ : ∃ q, q = ({ s31 with at_ := s31.at_ + 1 } : PS) := ⟨_, rfl⟩
          have ha33 : s33.at_ ≤ s31.at_ + 1 ∧ s31.at_ + 1 ≤ s33.at_ := by rw [hs33]; exact ⟨Nat.le_refl _, Nat.le_refl _⟩
          have hnl33 : s33.n.length ≤ s31.n.length ∧ s31.n.length ≤ s33.n.length := by rw [hs33]; exact ⟨Nat.le_refl _, Nat.le_refl _⟩
          rw [← hs33] at EQ33 HC33
          clear hs33
          go_wp2_with fail
          refine HC33.out.mono ?_
          rintro e w33 ⟨nv33, dv33, hw33, v33, rfl, rfl, hs33⟩
          have W33 := Lib.hid (W32.out.trans hw33)
          have S33 := Lib.hid hs33
          have LC32_33 := Lib.hid (S32.out.loc LC32.out hw33)
          clear hw33 hs33 HC33
          go_wp2_with fail
          go_roundg (l.length - s33.at_)
          case measure => omega
          case rel => exact ⟨f, xs ++ [x31], s33, nv33, dv33, _, rfl, Nat.le_refl _, by omega, (fun y hy => by rcases List.mem_append.1 hy with h | h; (have := hxs y h; omega); (simp at h; omega)), by omega, by omega, by simp; omega, LC32_33, S33, W33, FR32, EQ33⟩
        · have HC33 := may_calls S32.out 7 (by decide) ⟨#[44]⟩
          rw [hm33] at HC33
          have HC33 := Lib.hid HC33
          have hE := EQ31.out.trans (bind_ok hm33)
          try simp only [if_true, if_false, Bool.false_eq_true, Option.isSome] at hE
          have EQ33 := Lib.hid hE
          clear hE
          clear hm33
          go_wp2_with fail
          refine HC33.out.mono ?_
          rintro e w33 ⟨nv33, dv33, hw33, v33, rfl, rfl, hs33⟩
          have W33 := Lib.hid (W32.out.trans hw33)
          have S33 := Lib.hid hs33
          have LC32_33 := Lib.hid (S32.out.loc LC32.out hw33)
          clear hw33 hs33 HC33
          go_wp2_with fail
          refine (must_calls S33.out fin).mono ?_
          rintro e w34 ⟨nv34, dv34, hw34, hr34⟩
          have W34 := Lib.hid (W33.out.trans hw34)
          have HW34 := Lib.hid hw34
          clear hw34
          cases hp34 : syn.must fin l s31 with
          | bad q =>
            rw [hp34] at hr34
            obtain ⟨rfl, s', hq, hs⟩ := hr34
            exact ⟨rfl, postL_bad (EQ33.out.trans (bind_bad hp34)) W34.out hq (hs.less (fun q e => Or.inl e))⟩
          | ok x34 s34 =>
            rw [hp34] at hr34
            obtain ⟨v34, rfl, rfl, hs⟩ := hr34
            have S34 := Lib.hid hs
            have hc34 := syn.Costs.must fin l s31 x34 s34 hp34
            try simp only at hc34
            have hE := EQ33.out.trans (bind_ok hp34)
            try simp only [if_true, if_false, Bool.false_eq_true, Option.isSome] at hE
            have EQ34 := Lib.hid hE
            clear hE
            have LC32_34 := Lib.hid (S33.out.loc LC32_33.out HW34.out)
            clear hs hp34
            go_wp2_with fail
            go_ret
            exact postL_ok (EQ34.out.trans rfl) W34.out LC32_34.out S34.out FR32.out

set_option maxRecDepth 20000 in
set_option maxHeartbeats 4000000 in
theorem row_attr {k K : Nat} {one : syn.Pr Nat} (hone : ∀ F, Part F lo w0 a l c pb 27 k one) (ho : syn.One one) (hK : l.length < K) (fin : ByteArray) (h : St F lo w0 a l c pb w nv dv s) (hsm : s.n.length ≤ 2 * s.at_) (hfu : l.length - s.at_ < k) :
    Calls Try.prog 26 #[ptr pb, .func (.func 27) #[ptr pb] #[], .string fin] w fun e w' => PostL F lo w0 a l c pb (syn.row K one fin l s) nv dv w e w' := by
  have HP := Lib.hid hone
  have H := Lib.hid h
  have W0 := Lib.hid (Wr.refl pb nv dv w)
  have EQ0 := Lib.hid (show syn.row K one fin l s = ((syn.may 7 fin).bind fun b => if b = true then syn.Pr.pure [] else syn.rowGo one fin K []) l s from rfl)
  obtain ⟨i1, hi1⟩ := int_info
  have HJ := Lib.hid hi1
  have hfew := h.few
  clear h hone hi1
  go_enter Try.func26, Try.ntmps26
  rcases may_cases (l := l) (s := s) 7 (by decide) fin with ⟨hpl1, hm1⟩ | hm1
  · have HC1 := may_calls H.out 7 (by decide) fin
    rw [hm1] at HC1
    have HC1 := Lib.hid HC1
    have hE := EQ0.out.trans (bind_ok hm1)
    try simp only [if_true, if_false, Bool.false_eq_true, Option.isSome] at hE
    have EQ1 := Lib.hid hE
    clear hE
    clear hm1
    obtain ⟨s1, hs1⟩ : ∃ q, q = ({ s with at_ := s.at_ + 1 } : PS) := ⟨_, rfl⟩
    have ha1 : s1.at_ ≤ s.at_ + 1 ∧ s.at_ + 1 ≤ s1.at_ := by rw [hs1]; exact ⟨Nat.le_refl _, Nat.le_refl _⟩
    have hnl1 : s1.n.length ≤ s.n.length ∧ s.n.length ≤ s1.n.length := by rw [hs1]; exact ⟨Nat.le_refl _, Nat.le_refl _⟩
    rw [← hs1] at EQ1 HC1
    clear hs1
    go_wp2_with fail
    refine HC1.out.mono ?_
    rintro e w1 ⟨nv1, dv1, hw1, v1, rfl, rfl, hs1⟩
    have W1 := Lib.hid (W0.out.trans hw1)
    have S1 := Lib.hid hs1
    clear hw1 hs1 HC1
    go_wp2_with fail
    go_ret
    exact postL_ok (EQ1.out.trans rfl) W1.out (Loc.nil F lo _ _) S1.out.none_ (fun q e => by cases e)
  · have HC1 := may_calls H.out 7 (by decide) fin
    rw [hm1] at HC1
    have HC1 := Lib.hid HC1
    have hE := EQ0.out.trans (bind_ok hm1)
    try simp only [if_true, if_false, Bool.false_eq_true, Option.isSome] at hE
    have EQ1 := Lib.hid hE
    clear hE
    clear hm1
    go_wp2_with fail
    refine HC1.out.mono ?_
    rintro e w1 ⟨nv1, dv1, hw1, v1, rfl, rfl, hs1⟩
    have W1 := Lib.hid (W0.out.trans hw1)
    have S1 := Lib.hid hs1
    clear hw1 hs1 HC1
    go_wp2_with fail
    go_loopg [6] (l.length) (fun gg v6 wr => ∃ (f : Nat) (xs : List Nat) (s1 : PS) (nv1 dv1 lv : Value), v6 = lv ∧ l.length - s1.at_ ≤ gg ∧ l.length - s1.at_ < f ∧ (∀ x ∈ xs, x < s1.n.length) ∧ s1.n.length ≤ 2 * s1.at_ ∧ s.at_ ≤ s1.at_ ∧ xs.length ≤ s1.at_ ∧ Hid (Loc F lo wr dv1 lv xs) ∧ Hid (St (fun q => F q ∨ lv.ownBlock = some q) lo w0 a l c pb wr nv1 dv1 s1) ∧ Hid (Wr pb nv dv w wr nv1 dv1) ∧ Hid (∀ q, lv.ownBlock = some q → w.heap.size ≤ q) ∧ Hid (syn.row K one fin l s = syn.rowGo one fin f xs l s1))
    case atStart => exact ⟨K, [], s, nv1, dv1, .slice none 0 0, rfl, by omega, by omega, (fun x hx => by cases hx), hsm, Nat.le_refl _, by simp, Lib.hid (Loc.nil F lo _ _), Lib.hid S1.out.none_, W1, Lib.hid (fun q e => by cases e), EQ1⟩
    case round =>
      clear S1 W1 EQ1
      obtain ⟨f, xs, s20, nv20, dv20, lv, rfl, hgk, hf, hxs, hn20, ha20, hxl, LC20, S20, W20, FR20, EQ20⟩ := hrel
      obtain ⟨f, rfl⟩ : ∃ f', f = f' + 1 := ⟨f - 1, by omega⟩
      have hp20 := S20.out.pos
      have hxl9 : xs.length + 1 ≤ 9000 := by omega
      have HXL := Lib.hid hxl9
      clear hxl9
      have EQ21 := Lib.hid (EQ20.out.trans (show syn.rowGo one fin (f + 1) xs l s20 = (one.bind fun x => (syn.may 7 ⟨#[44]⟩).bind fun b => if b = true then syn.rowGo one fin f (xs ++ [x]) else (syn.must fin).bind fun _ => syn.Pr.pure (xs ++ [x])) l s20 from rfl))
      go_wp2_with fail
      refine (HP.out (fun q => F q ∨ u6.ownBlock = some q) wr nv20 dv20 s20 S20.out hn20 (by omega)).mono ?_
      rintro e w31 ⟨nv31, dv31, hw31, hr31⟩
      have W31 := Lib.hid (W20.out.trans hw31)
      have HW31 := Lib.hid hw31
      clear hw31
      cases hp31 : one l s20 with
      | bad q =>
        rw [hp31] at hr31
        obtain ⟨rfl, s', hq, hs⟩ := hr31
        exact ⟨rfl, postL_bad (EQ21.out.trans (bind_bad hp31)) W31.out hq (hs.less (fun q e => Or.inl e))⟩
      | ok x31 s31 =>
        rw [hp31] at hr31
        obtain ⟨v31, rfl, rfl, hs⟩ := hr31
        have S31 := Lib.hid hs
        have hc31 := ho.get hp31
        try simp only at hc31
        have hE := EQ21.out.trans (bind_ok hp31)
        try simp only [if_true, if_false, Bool.false_eq_true, Option.isSome] at hE
        have EQ31 := Lib.hid hE
        clear hE
        have LC20_31 := Lib.hid (S20.out.loc LC20.out HW31.out)
        clear hs hp31
        go_upto_region 4 with (at_builtin; refine wpList_append_any rfl (.tmp 10) (.tmp 13) 31 rfl lo 3 i1 (.int .i64 0) 1 8 Try.underlying31 HJ.out.1 HJ.out.2.1 HJ.out.2.2.1 HJ.out.2.2.2 rfl (by decide) u6 (xs).length _ rfl (LC20_31.out.1.alloc _) ⟨w31.heap.size, 0, none⟩ 1 1 (by decide) [natV x31] rfl rfl (new_cells w31 _ _) (by simp [Value.oneCell']) (by have := HXL.out; unfold maxLen; simp at this ⊢; omega) (by have := HXL.out; simp at this ⊢; omega) (by have := S31.out.hlo; simp; omega) ?_; intro vv32 w32 hown32 hgr32 hwh32; obtain ⟨gq32, cp32, rfl⟩ := Joins.ownsRow_form hown32 (by omega))
        obtain ⟨hl32, hs32, hw32, hf32⟩ := push_ S31.out LC20_31.out FR20.out W31.out hown32 hgr32 hwh32
        have LC32 := Lib.hid hl32
        have S32 := Lib.hid hs32
        have W32 := Lib.hid hw32
        have FR32 := Lib.hid hf32
        clear hl32 hs32 hw32 hf32 hown32 hgr32 hwh32
        rcases may_cases (l := l) (s := s31) 7 (by decide) ⟨#[44]⟩ with ⟨hpl33, hm33⟩ | hm33
        · have HC33 := may_calls S32.out 7 (by decide) ⟨#[44]⟩
          rw [hm33] at HC33
          have HC33 := Lib.hid HC33
          have hE := EQ31.out.trans (bind_ok hm33)
          try simp only [if_true, if_false, Bool.false_eq_true, Option.isSome] at hE
          have EQ33 := Lib.hid hE
          clear hE
          clear hm33
          obtain ⟨s33, hs33⟩ : ∃ q, q = ({ s31 with at_ := s31.at_ + 1 } : PS) := ⟨_, rfl⟩
          have ha33 : s33.at_ ≤ s31.at_ + 1 ∧ s31.at_ + 1 ≤ s33.at_ := by rw [hs33]; exact ⟨Nat.le_refl _, Nat.le_refl _⟩
          have hnl33 : s33.n.length ≤ s31.n.length ∧ s31.n.length ≤ s33.n.length := by rw [hs33]; exact ⟨Nat.le_refl _, Nat.le_refl _⟩
          rw [← hs33] at EQ33 HC33
          clear hs33
          go_wp2_with fail
          refine HC33.out.mono ?_
          rintro e w33 ⟨nv33, dv33, hw33, v33, rfl, rfl, hs33⟩
          have W33 := Lib.hid (W32.out.trans hw33)
          have S33 := Lib.hid hs33
          have LC32_33 := Lib.hid (S32.out.loc LC32.out hw33)
          clear hw33 hs33 HC33
          go_wp2_with fail
          go_roundg (l.length - s33.at_)
          case measure => omega
          case rel => exact ⟨f, xs ++ [x31], s33, nv33, dv33, _, rfl, Nat.le_refl _, by omega, (fun y hy => by rcases List.mem_append.1 hy with h | h; (have := hxs y h; omega); (simp at h; omega)), by omega, by omega, by simp; omega, LC32_33, S33, W33, FR32, EQ33⟩
        · have HC33 := may_calls S32.out 7 (by decide) ⟨#[44]⟩
          rw [hm33] at HC33
          have HC33 := Lib.hid HC33
          have hE := EQ31.out.trans (bind_ok hm33)
          try simp only [if_true, if_false, Bool.false_eq_true, Option.isSome] at hE
          have EQ33 := Lib.hid hE
          clear hE
          clear hm33
          go_wp2_with fail
          refine HC33.out.mono ?_
          rintro e w33 ⟨nv33, dv33, hw33, v33, rfl, rfl, hs33⟩
          have W33 := Lib.hid (W32.out.trans hw33)
          have S33 := Lib.hid hs33
          have LC32_33 := Lib.hid (S32.out.loc LC32.out hw33)
          clear hw33 hs33 HC33
          go_wp2_with fail
          refine (must_calls S33.out fin).mono ?_
          rintro e w34 ⟨nv34, dv34, hw34, hr34⟩
          have W34 := Lib.hid (W33.out.trans hw34)
          have HW34 := Lib.hid hw34
          clear hw34
          cases hp34 : syn.must fin l s31 with
          | bad q =>
            rw [hp34] at hr34
            obtain ⟨rfl, s', hq, hs⟩ := hr34
            exact ⟨rfl, postL_bad (EQ33.out.trans (bind_bad hp34)) W34.out hq (hs.less (fun q e => Or.inl e))⟩
          | ok x34 s34 =>
            rw [hp34] at hr34
            obtain ⟨v34, rfl, rfl, hs⟩ := hr34
            have S34 := Lib.hid hs
            have hc34 := syn.Costs.must fin l s31 x34 s34 hp34
            try simp only at hc34
            have hE := EQ33.out.trans (bind_ok hp34)
            try simp only [if_true, if_false, Bool.false_eq_true, Option.isSome] at hE
            have EQ34 := Lib.hid hE
            clear hE
            have LC32_34 := Lib.hid (S33.out.loc LC32_33.out HW34.out)
            clear hs hp34
            go_wp2_with fail
            go_ret
            exact postL_ok (EQ34.out.trans rfl) W34.out LC32_34.out S34.out FR32.out
end
end Go.Proofs.Ytoggcdldoinbnaa
