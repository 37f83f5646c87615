/- The parser's values. -/
import Derived.Test.YtoggcdldoinbnaaSynL
import Derived.Deep.CutBlock
namespace Go.Proofs.Ytoggcdldoinbnaa
open Go.RowKit
open syn (Tok Nd PS)
set_option linter.unusedVariables false
set_option linter.unusedSimpArgs false

theorem get1_ (x : Nat) : ∀ (i k : Nat), [x][i]? = some k → (#[natV x] : Array Value)[i]? = some (natV k) := by
  intro i k h
  match i, h with
  | 0, h => simp at h; subst h; rfl
  | n + 1, h => simp at h
section
variable {F : Nat → Prop} {lo : Nat} {w0 : World} {a : Option Addr} {l : List Tok} {c pb : Nat} {w w' : World} {nv dv nv' dv' : Value} {s : PS}
theorem St.keepT (h : St F lo w0 a l c pb w nv dv s) {g : Nat} {cs : Array Value} {t : TypeId} (hg : w.heap[g]? = some (.cells cs t (0, 0))) (ht : t ≠ 40 ∧ t ≠ 33 ∧ t ≠ 3) (hw : Wr pb nv dv w w' nv' dv') : w'.heap[g]? = some (.cells cs t (0, 0)) :=
  hw.only.keeps hg (h.other hg ⟨ht.1, ht.2.1, fun e => absurd e ht.2.2⟩)
theorem over_ {S : Nat → Prop} {x y z : World} (h : Only (fun _ => False) x y) (hS : ∀ k, S k → x.heap.size ≤ k) (k : Only S y z) : Only (fun _ => False) x z :=
  ⟨k.os.trans h.os, k.tape.trans h.tape, k.output.trans h.output, Nat.le_trans h.size k.size, fun i hi _ => (k.block i (by have := h.size; omega) (fun e => by have := hS i e; omega)).trans (h.block i hi (fun e => e))⟩
/-- The map of kinds, made anew. -/
theorem kinds_ (w : World) : ∃ (es : Array MapEntry) (ck : Nat) (wA wB wC wD : World),
    (Instr.mapUpdate 66 (.map (some w.heap.size)) (.int .i64 4) (.int .i64 13)).run Try.prog (w.alloc (.map #[] 0)) = .ok () wA ∧ (Instr.mapUpdate 66 (.map (some w.heap.size)) (.int .i64 5) (.int .i64 14)).run Try.prog wA = .ok () wB ∧
    (Instr.mapUpdate 66 (.map (some w.heap.size)) (.int .i64 6) (.int .i64 15)).run Try.prog wB = .ok () wC ∧ (Instr.mapUpdate 66 (.map (some w.heap.size)) (.int .i64 3) (.int .i64 16)).run Try.prog wC = .ok () wD ∧ Only (fun _ => False) w wD ∧
    ∀ k : Int, (Instr.lookup 66 (.map (some w.heap.size)) (.int .i64 k) true).run Try.prog wD = .ok (.tuple #[((syn.kindOf k).map (fun x => Value.int .i64 x)).getD (.int .i64 0), .bool (syn.kindOf k).isSome]) wD := by
  obtain ⟨e1, c1, w1, r1, o1, -, m1, i1, k1⟩ := run_mapUpdate_int (P := Try.prog) Try.underlying66 Try.underlying3 (heap_alloc_new w (.map #[] 0)) (fun e he => by simp at he) 4 (.int .i64 13)
  obtain ⟨e2, c2, w2, r2, o2, -, m2, i2, k2⟩ := run_mapUpdate_int (P := Try.prog) Try.underlying66 Try.underlying3 m1 i1 5 (.int .i64 14)
  obtain ⟨e3, c3, w3, r3, o3, -, m3, i3, k3⟩ := run_mapUpdate_int (P := Try.prog) Try.underlying66 Try.underlying3 m2 i2 6 (.int .i64 15)
  obtain ⟨e4, c4, w4, r4, o4, -, m4, i4, k4⟩ := run_mapUpdate_int (P := Try.prog) Try.underlying66 Try.underlying3 m3 i3 3 (.int .i64 16)
  refine ⟨e4, c4, w1, w2, w3, w4, r1, r2, r3, r4, over_ ((Only.refl _ w).alloc _) (fun k e => Nat.le_of_eq e.symm) (((o1.trans o2).trans o3).trans o4), fun k => ?_⟩
  have hl := run_lookup_int (P := Try.prog) (z := .int .i64 0) Try.underlying66 Try.underlying3 (by kernel_rfl) m4 i4 k true
  have hk : lookI e4.toList k = (syn.kindOf k).map (fun x => Value.int .i64 x) := by
    rw [k4, k3, k2, k1]
    unfold syn.kindOf
    by_cases h3 : k = 3
    · subst h3; rfl
    by_cases h6 : k = 6
    · subst h6; rfl
    by_cases h5 : k = 5
    · subst h5; rfl
    by_cases h4 : k = 4
    · subst h4; rfl
    rw [if_neg h3, if_neg h6, if_neg h5, if_neg h4, if_neg h4, if_neg h5, if_neg h6, if_neg h3]
    rfl
  rw [hl, hk]
  cases syn.kindOf k <;> rfl
theorem may_cases (kind : Int) (hk : kind ≠ 0) (text : ByteArray) : (s.at_ < l.length ∧ syn.may kind text l s = .ok true { s with at_ := s.at_ + 1 }) ∨ syn.may kind text l s = .ok false s := by
  obtain ⟨y, hy⟩ : ∃ y, syn.isOne kind [text] (syn.next l s) = y := ⟨_, rfl⟩
  cases y
  · exact .inr (may_no hy)
  · exact .inl ⟨one_lt hk hy, may_yes hy⟩

set_option maxRecDepth 20000 in
set_option maxHeartbeats 1000000 in
theorem equal_part {k K : Nat} {p : syn.Pr Nat} (hp : Part F lo w0 a l c pb 47 k p) (ho : syn.One p) (hK : l.length < K) : Part F lo w0 a l c pb 44 k (syn.left K p 7 [⟨#[61, 61]⟩, ⟨#[33, 61]⟩]) := by
  intro w nv dv s h hsm hfu
  have H := Lib.hid h
  have HP := Lib.hid hp
  clear h hp
  have hmf : ∀ (fn : Fn) (first cap : Array Value) (w : World), (Instr.makeFunc fn first cap).run Try.prog w = .ok (.func fn first cap) w := fun _ _ _ _ => rfl
  go_enter Try.func44, Try.ntmps44
  go_wp2_with fail
  have o1 := (Only.refl (fun _ => False) w).alloc (.cells #[.string ⟨#[61, 61]⟩, .string ⟨#[33, 61]⟩] 9)
  have S1 := Lib.hid (H.out.grow o1)
  refine (left_plain HP.out ho 7 (by decide) [⟨#[61, 61]⟩, ⟨#[33, 61]⟩] w.heap.size 2 (by simp) S1.out hsm hfu hK (heap_alloc_new w _)).mono ?_
  rintro e w2 ⟨nv2, dv2, hw2, hr2⟩
  have W2 := Lib.hid ((Wr.same (pb := pb) nv dv o1).trans hw2)
  clear hw2
  cases hp2 : syn.left K p 7 [⟨#[61, 61]⟩, ⟨#[33, 61]⟩] l s with
  | bad q =>
    rw [hp2] at hr2
    obtain ⟨rfl, s', hq, hs⟩ := hr2
    exact ⟨rfl, post_bad hp2 W2.out hq hs⟩
  | ok x2 s2 =>
    rw [hp2] at hr2
    obtain ⟨v, rfl, rfl, hs⟩ := hr2
    have S2 := Lib.hid hs
    have HP2 := Lib.hid hp2
    clear hs hp2
    go_wp2_with fail
    go_ret
    exact post_ok HP2.out W2.out rfl S2.out

set_option maxRecDepth 20000 in
set_option maxHeartbeats 1000000 in
theorem both_part {k K : Nat} {p : syn.Pr Nat} (hp : Part F lo w0 a l c pb 44 k p) (ho : syn.One p) (hK : l.length < K) : Part F lo w0 a l c pb 40 k (syn.left K p 1 [⟨#[97, 110, 100]⟩]) := by
  intro w nv dv s h hsm hfu
  have H := Lib.hid h
  have HP := Lib.hid hp
  clear h hp
  have hmf : ∀ (fn : Fn) (first cap : Array Value) (w : World), (Instr.makeFunc fn first cap).run Try.prog w = .ok (.func fn first cap) w := fun _ _ _ _ => rfl
  go_enter Try.func40, Try.ntmps40
  go_wp2_with fail
  have o1 := (Only.refl (fun _ => False) w).alloc (.cells #[.string ⟨#[97, 110, 100]⟩] 9)
  have S1 := Lib.hid (H.out.grow o1)
  refine (left_equal HP.out ho 1 (by decide) [⟨#[97, 110, 100]⟩] w.heap.size 1 (by simp) S1.out hsm hfu hK (heap_alloc_new w _)).mono ?_
  rintro e w2 ⟨nv2, dv2, hw2, hr2⟩
  have W2 := Lib.hid ((Wr.same (pb := pb) nv dv o1).trans hw2)
  clear hw2
  cases hp2 : syn.left K p 1 [⟨#[97, 110, 100]⟩] l s with
  | bad q =>
    rw [hp2] at hr2
    obtain ⟨rfl, s', hq, hs⟩ := hr2
    exact ⟨rfl, post_bad hp2 W2.out hq hs⟩
  | ok x2 s2 =>
    rw [hp2] at hr2
    obtain ⟨v, rfl, rfl, hs⟩ := hr2
    have S2 := Lib.hid hs
    have HP2 := Lib.hid hp2
    clear hs hp2
    go_wp2_with fail
    go_ret
    exact post_ok HP2.out W2.out rfl S2.out

set_option maxRecDepth 20000 in
set_option maxHeartbeats 1000000 in
theorem value_part {k K : Nat} {p : syn.Pr Nat} (hp : Part F lo w0 a l c pb 40 k p) (ho : syn.One p) (hK : l.length < K) : Part F lo w0 a l c pb 20 k (syn.left K p 1 [⟨#[111, 114]⟩]) := by
  intro w nv dv s h hsm hfu
  have H := Lib.hid h
  have HP := Lib.hid hp
  clear h hp
  have hmf : ∀ (fn : Fn) (first cap : Array Value) (w : World), (Instr.makeFunc fn first cap).run Try.prog w = .ok (.func fn first cap) w := fun _ _ _ _ => rfl
  go_enter Try.func20, Try.ntmps20
  go_wp2_with fail
  have o1 := (Only.refl (fun _ => False) w).alloc (.cells #[.string ⟨#[111, 114]⟩] 9)
  have S1 := Lib.hid (H.out.grow o1)
  refine (left_both HP.out ho 1 (by decide) [⟨#[111, 114]⟩] w.heap.size 1 (by simp) S1.out hsm hfu hK (heap_alloc_new w _)).mono ?_
  rintro e w2 ⟨nv2, dv2, hw2, hr2⟩
  have W2 := Lib.hid ((Wr.same (pb := pb) nv dv o1).trans hw2)
  clear hw2
  cases hp2 : syn.left K p 1 [⟨#[111, 114]⟩] l s with
  | bad q =>
    rw [hp2] at hr2
    obtain ⟨rfl, s', hq, hs⟩ := hr2
    exact ⟨rfl, post_bad hp2 W2.out hq hs⟩
  | ok x2 s2 =>
    rw [hp2] at hr2
    obtain ⟨v, rfl, rfl, hs⟩ := hr2
    have S2 := Lib.hid hs
    have HP2 := Lib.hid hp2
    clear hs hp2
    go_wp2_with fail
    go_ret
    exact post_ok HP2.out W2.out rfl S2.out

set_option maxRecDepth 20000 in
set_option maxHeartbeats 4000000 in
theorem plain_part {K : Nat} (hK : l.length < K) : ∀ k, Part F lo w0 a l c pb 47 k (syn.plain K k)
  | 0 => fun w nv dv s h hsm hfu => by omega
  | k + 1 => by
    have hpl := plain_part hK k
    have HPl := Lib.hid hpl
    have HVa := Lib.hid (show Part F lo w0 a l c pb 20 k (syn.valueOf K (syn.plain K k)) from value_part (both_part (equal_part hpl (syn.One.plain K k) hK) ((syn.One.plain K k).equalOf K) hK) ((syn.One.plain K k).bothOf K) hK)
    clear hpl
    intro w nv dv s h hsm hfu
    have H := Lib.hid h
    have W0 := Lib.hid (Wr.refl pb nv dv w)
    have EQ0 := Lib.hid (congrFun (congrFun (syn.plain.eq_2 K k) l) s)
    clear h
    go_enter Try.func47, Try.ntmps47
    go_wp2_with fail
    refine (next_calls H.out).mono ?_
    rintro e w1 ⟨q1, rfl, o1⟩
    have hn1 := heap_alloc_new w1 (.cells #[.int .i64 (syn.next l s).1, .string (syn.next l s).2, .int .i64 q1] 37)
    have o2 := o1.trans ((Only.refl _ w1).alloc (.cells #[.int .i64 (syn.next l s).1, .string (syn.next l s).2, .int .i64 q1] 37))
    have S1 := Lib.hid (H.out.grow o2)
    have W1 := Lib.hid (W0.out.trans (Wr.same (pb := pb) nv dv o2))
    have HN1 := Lib.hid hn1
    clear o1 o2 hn1
    rcases may_cases (l := l) (s := s) 7 (by decide) ⟨#[33]⟩ with ⟨hpl2, hm2⟩ | hm2
    · have HC2 := may_calls S1.out 7 (by decide) ⟨#[33]⟩
      rw [hm2] at HC2
      have HC2 := Lib.hid HC2
      have hE := EQ0.out.trans (bind_ok hm2)
      try simp only [if_true, if_false, Bool.false_eq_true, Option.isSome] at hE
      have EQ2 := Lib.hid hE
      clear hE
      clear hm2
      obtain ⟨s2, hs2⟩ : ∃ q, q = ({ s with at_ := s.at_ + 1 } : PS) := ⟨_, rfl⟩
      have ha2 : s2.at_ ≤ s.at_ + 1 ∧ s.at_ + 1 ≤ s2.at_ := by rw [hs2]; exact ⟨Nat.le_refl _, Nat.le_refl _⟩
      have hnl2 : s2.n.length ≤ s.n.length ∧ s.n.length ≤ s2.n.length := by rw [hs2]; exact ⟨Nat.le_refl _, Nat.le_refl _⟩
      rw [← hs2] at EQ2 HC2
      clear hs2
      go_wp2_with fail
      refine HC2.out.mono ?_
      rintro e w2 ⟨nv2, dv2, hw2, v2, rfl, rfl, hs2⟩
      have W2 := Lib.hid (W1.out.trans hw2)
      have S2 := Lib.hid hs2
      have HN1_2 := Lib.hid (S1.out.keepT (t := 37) HN1.out (by decide) hw2)
      clear hw2 hs2 HC2
      go_wp2_with fail
      refine (HPl.out w2 nv2 dv2 _ S2.out (by omega) (by omega)).mono ?_
      rintro e w3 ⟨nv3, dv3, hw3, hr3⟩
      have W3 := Lib.hid (W2.out.trans hw3)
      have HW3 := Lib.hid hw3
      clear hw3
      cases hp3 : (syn.plain K k) l s2 with
      | bad q =>
        rw [hp3] at hr3
        obtain ⟨rfl, s', hq, hs⟩ := hr3
        exact ⟨rfl, post_bad (EQ2.out.trans (bind_bad hp3)) W3.out hq hs⟩
      | ok x3 s3 =>
        rw [hp3] at hr3
        obtain ⟨v3, rfl, rfl, hs⟩ := hr3
        have S3 := Lib.hid hs
        have hc3 := (syn.One.plain K k).get hp3
        try simp only at hc3
        have hE := EQ2.out.trans (bind_ok hp3)
        try simp only [if_true, if_false, Bool.false_eq_true, Option.isSome] at hE
        have EQ3 := Lib.hid hE
        clear hE
        have HN1_3 := Lib.hid (S2.out.keepT (t := 37) HN1_2.out (by decide) HW3.out)
        clear hs hp3
        go_wp2_with fail
        have o4 := (Only.refl (fun _ => False) w3).alloc (.cells #[natV x3] 3)
        have K4 := Lib.hid (show KidsOk F lo (w3.alloc (.cells #[natV x3] 3)) dv3 (.slice (some ⟨w3.heap.size, 0, none⟩) 1 1) [x3] from .inr ⟨w3.heap.size, 1, _, rfl, S3.out.hlo, heap_alloc_new w3 _, fun i k hi => get1_ (x3) i k hi, fun e => by have := (S3.out.depth.lt _ e).2; omega, fun e => by have := S3.out.fin _ e; omega⟩)
        have S4 := Lib.hid (S3.out.grow o4)
        have W4 := Lib.hid (W3.out.trans (Wr.same nv3 dv3 o4))
        have HN1_4 := Lib.hid (o4.keeps HN1_3.out (fun e => e))
        refine (node_calls S4.out 20 ⟨#[]⟩ (.slice (some ⟨w3.heap.size, 0, none⟩) 1 1) [x3] K4.out (fun k hk => by simp at hk; first | omega | (rcases hk with rfl | rfl <;> omega) | (rcases hk with rfl | rfl | rfl <;> omega)) (by omega) (by simp)).mono ?_
        rintro e w5 ⟨nv5, dv5, hw5, v5, rfl, rfl, hs5⟩
        have W5 := Lib.hid (W4.out.trans hw5)
        have S5 := Lib.hid hs5
        have HN1_5 := Lib.hid (S4.out.keepT (t := 37) HN1_4.out (by decide) hw5)
        clear hw5 hs5
        go_wp2_with fail
        go_ret
        exact post_ok (EQ3.out.trans rfl) W5.out rfl S5.out
    · have HC2 := may_calls S1.out 7 (by decide) ⟨#[33]⟩
      rw [hm2] at HC2
      have HC2 := Lib.hid HC2
      have hE := EQ0.out.trans (bind_ok hm2)
      try simp only [if_true, if_false, Bool.false_eq_true, Option.isSome] at hE
      have EQ2 := Lib.hid hE
      clear hE
      clear hm2
      go_wp2_with fail
      refine HC2.out.mono ?_
      rintro e w2 ⟨nv2, dv2, hw2, v2, rfl, rfl, hs2⟩
      have W2 := Lib.hid (W1.out.trans hw2)
      have S2 := Lib.hid hs2
      have HN1_2 := Lib.hid (S1.out.keepT (t := 37) HN1.out (by decide) hw2)
      clear hw2 hs2 HC2
      rcases may_cases (l := l) (s := s) 7 (by decide) ⟨#[40]⟩ with ⟨hpl6, hm6⟩ | hm6
      · have HC6 := may_calls S2.out 7 (by decide) ⟨#[40]⟩
        rw [hm6] at HC6
        have HC6 := Lib.hid HC6
        have hE := EQ2.out.trans (bind_ok hm6)
        try simp only [if_true, if_false, Bool.false_eq_true, Option.isSome] at hE
        have EQ6 := Lib.hid hE
        clear hE
        clear hm6
        obtain ⟨s6, hs6⟩ : ∃ q, q = ({ s with at_ := s.at_ + 1 } : PS) := ⟨_, rfl⟩
        have ha6 : s6.at_ ≤ s.at_ + 1 ∧ s.at_ + 1 ≤ s6.at_ := by rw [hs6]; exact ⟨Nat.le_refl _, Nat.le_refl _⟩
        have hnl6 : s6.n.length ≤ s.n.length ∧ s.n.length ≤ s6.n.length := by rw [hs6]; exact ⟨Nat.le_refl _, Nat.le_refl _⟩
        rw [← hs6] at EQ6 HC6
        clear hs6
        go_wp2_with fail
        refine HC6.out.mono ?_
        rintro e w6 ⟨nv6, dv6, hw6, v6, rfl, rfl, hs6⟩
        have W6 := Lib.hid (W2.out.trans hw6)
        have S6 := Lib.hid hs6
        have HN1_6 := Lib.hid (S2.out.keepT (t := 37) HN1_2.out (by decide) hw6)
        clear hw6 hs6 HC6
        go_wp2_with fail
        refine (HVa.out w6 nv6 dv6 _ S6.out (by omega) (by omega)).mono ?_
        rintro e w7 ⟨nv7, dv7, hw7, hr7⟩
        have W7 := Lib.hid (W6.out.trans hw7)
        have HW7 := Lib.hid hw7
        clear hw7
        cases hp7 : (syn.valueOf K (syn.plain K k)) l s6 with
        | bad q =>
          rw [hp7] at hr7
          obtain ⟨rfl, s', hq, hs⟩ := hr7
          exact ⟨rfl, post_bad (EQ6.out.trans (bind_bad hp7)) W7.out hq hs⟩
        | ok x7 s7 =>
          rw [hp7] at hr7
          obtain ⟨v7, rfl, rfl, hs⟩ := hr7
          have S7 := Lib.hid hs
          have hc7 := ((syn.One.plain K k).valueOf K).get hp7
          try simp only at hc7
          have hE := EQ6.out.trans (bind_ok hp7)
          try simp only [if_true, if_false, Bool.false_eq_true, Option.isSome] at hE
          have EQ7 := Lib.hid hE
          clear hE
          have HN1_7 := Lib.hid (S6.out.keepT (t := 37) HN1_6.out (by decide) HW7.out)
          clear hs hp7
          go_wp2_with fail
          refine (must_calls S7.out ⟨#[41]⟩).mono ?_
          rintro e w8 ⟨nv8, dv8, hw8, hr8⟩
          have W8 := Lib.hid (W7.out.trans hw8)
          have HW8 := Lib.hid hw8
          clear hw8
          cases hp8 : syn.must ⟨#[41]⟩ l s7 with
          | bad q =>
            rw [hp8] at hr8
            obtain ⟨rfl, s', hq, hs⟩ := hr8
            exact ⟨rfl, post_bad (EQ7.out.trans (bind_bad hp8)) W8.out hq hs⟩
          | ok x8 s8 =>
            rw [hp8] at hr8
            obtain ⟨v8, rfl, rfl, hs⟩ := hr8
            have S8 := Lib.hid hs
            have hc8 := syn.Costs.must ⟨#[41]⟩ l s7 x8 s8 hp8
            try simp only at hc8
            have hE := EQ7.out.trans (bind_ok hp8)
            try simp only [if_true, if_false, Bool.false_eq_true, Option.isSome] at hE
            have EQ8 := Lib.hid hE
            clear hE
            have HN1_8 := Lib.hid (S7.out.keepT (t := 37) HN1_7.out (by decide) HW8.out)
            clear hs hp8
            go_wp2_with fail
            go_ret
            exact post_ok (EQ8.out.trans rfl) W8.out rfl S8.out
      · have HC6 := may_calls S2.out 7 (by decide) ⟨#[40]⟩
        rw [hm6] at HC6
        have HC6 := Lib.hid HC6
        have hE := EQ2.out.trans (bind_ok hm6)
        try simp only [if_true, if_false, Bool.false_eq_true, Option.isSome] at hE
        have EQ6 := Lib.hid hE
        clear hE
        clear hm6
        go_wp2_with fail
        refine HC6.out.mono ?_
        rintro e w6 ⟨nv6, dv6, hw6, v6, rfl, rfl, hs6⟩
        have W6 := Lib.hid (W2.out.trans hw6)
        have S6 := Lib.hid hs6
        have HN1_6 := Lib.hid (S2.out.keepT (t := 37) HN1_2.out (by decide) hw6)
        clear hw6 hs6 HC6
        rcases may_cases (l := l) (s := s) 1 (by decide) ⟨#[116, 114, 117, 101]⟩ with ⟨hpl9, hm9⟩ | hm9
        · have HC9 := may_calls S6.out 1 (by decide) ⟨#[116, 114, 117, 101]⟩
          rw [hm9] at HC9
          have HC9 := Lib.hid HC9
          have hE := EQ6.out.trans (bind_ok hm9)
          try simp only [if_true, if_false, Bool.false_eq_true, Option.isSome] at hE
          have EQ9 := Lib.hid hE
          clear hE
          clear hm9
          obtain ⟨s9, hs9⟩ : ∃ q, q = ({ s with at_ := s.at_ + 1 } : PS) := ⟨_, rfl⟩
          have ha9 : s9.at_ ≤ s.at_ + 1 ∧ s.at_ + 1 ≤ s9.at_ := by rw [hs9]; exact ⟨Nat.le_refl _, Nat.le_refl _⟩
          have hnl9 : s9.n.length ≤ s.n.length ∧ s.n.length ≤ s9.n.length := by rw [hs9]; exact ⟨Nat.le_refl _, Nat.le_refl _⟩
          rw [← hs9] at EQ9 HC9
          clear hs9
          go_wp2_with fail
          refine HC9.out.mono ?_
          rintro e w9 ⟨nv9, dv9, hw9, v9, rfl, rfl, hs9⟩
          have W9 := Lib.hid (W6.out.trans hw9)
          have S9 := Lib.hid hs9
          have HN1_9 := Lib.hid (S6.out.keepT (t := 37) HN1_6.out (by decide) hw9)
          clear hw9 hs9 HC9
          go_wp2_with fail
          refine (node_calls S9.out 17 ⟨#[]⟩ (.slice none 0 0) [] (.inl ⟨rfl, none, 0, rfl⟩) (fun k hk => by cases hk) (by omega) (by simp)).mono ?_
          rintro e w10 ⟨nv10, dv10, hw10, v10, rfl, rfl, hs10⟩
          have W10 := Lib.hid (W9.out.trans hw10)
          have S10 := Lib.hid hs10
          have HN1_10 := Lib.hid (S9.out.keepT (t := 37) HN1_9.out (by decide) hw10)
          clear hw10 hs10
          go_wp2_with fail
          go_ret
          exact post_ok (EQ9.out.trans rfl) W10.out rfl S10.out
        · have HC9 := may_calls S6.out 1 (by decide) ⟨#[116, 114, 117, 101]⟩
          rw [hm9] at HC9
          have HC9 := Lib.hid HC9
          have hE := EQ6.out.trans (bind_ok hm9)
          try simp only [if_true, if_false, Bool.false_eq_true, Option.isSome] at hE
          have EQ9 := Lib.hid hE
          clear hE
          clear hm9
          go_wp2_with fail
          refine HC9.out.mono ?_
          rintro e w9 ⟨nv9, dv9, hw9, v9, rfl, rfl, hs9⟩
          have W9 := Lib.hid (W6.out.trans hw9)
          have S9 := Lib.hid hs9
          have HN1_9 := Lib.hid (S6.out.keepT (t := 37) HN1_6.out (by decide) hw9)
          clear hw9 hs9 HC9
          rcases may_cases (l := l) (s := s) 1 (by decide) ⟨#[102, 97, 108, 115, 101]⟩ with ⟨hpl11, hm11⟩ | hm11
          · have HC11 := may_calls S9.out 1 (by decide) ⟨#[102, 97, 108, 115, 101]⟩
            rw [hm11] at HC11
            have HC11 := Lib.hid HC11
            have hE := EQ9.out.trans (bind_ok hm11)
            try simp only [if_true, if_false, Bool.false_eq_true, Option.isSome] at hE
            have EQ11 := Lib.hid hE
            clear hE
            clear hm11
            obtain ⟨s11, hs11⟩ : ∃ q, q = ({ s with at_ := s.at_ + 1 } : PS) := ⟨_, rfl⟩
            have ha11 : s11.at_ ≤ s.at_ + 1 ∧ s.at_ + 1 ≤ s11.at_ := by rw [hs11]; exact ⟨Nat.le_refl _, Nat.le_refl _⟩
            have hnl11 : s11.n.length ≤ s.n.length ∧ s.n.length ≤ s11.n.length := by rw [hs11]; exact ⟨Nat.le_refl _, Nat.le_refl _⟩
            rw [← hs11] at EQ11 HC11
            clear hs11
            go_wp2_with fail
            refine HC11.out.mono ?_
            rintro e w11 ⟨nv11, dv11, hw11, v11, rfl, rfl, hs11⟩
            have W11 := Lib.hid (W9.out.trans hw11)
            have S11 := Lib.hid hs11
            have HN1_11 := Lib.hid (S9.out.keepT (t := 37) HN1_9.out (by decide) hw11)
            clear hw11 hs11 HC11
            go_wp2_with fail
            refine (node_calls S11.out 18 ⟨#[]⟩ (.slice none 0 0) [] (.inl ⟨rfl, none, 0, rfl⟩) (fun k hk => by cases hk) (by omega) (by simp)).mono ?_
            rintro e w12 ⟨nv12, dv12, hw12, v12, rfl, rfl, hs12⟩
            have W12 := Lib.hid (W11.out.trans hw12)
            have S12 := Lib.hid hs12
            have HN1_12 := Lib.hid (S11.out.keepT (t := 37) HN1_11.out (by decide) hw12)
            clear hw12 hs12
            go_wp2_with fail
            go_ret
            exact post_ok (EQ11.out.trans rfl) W12.out rfl S12.out
          · have HC11 := may_calls S9.out 1 (by decide) ⟨#[102, 97, 108, 115, 101]⟩
            rw [hm11] at HC11
            have HC11 := Lib.hid HC11
            have hE := EQ9.out.trans (bind_ok hm11)
            try simp only [if_true, if_false, Bool.false_eq_true, Option.isSome] at hE
            have EQ11 := Lib.hid hE
            clear hE
            clear hm11
            go_wp2_with fail
            refine HC11.out.mono ?_
            rintro e w11 ⟨nv11, dv11, hw11, v11, rfl, rfl, hs11⟩
            have W11 := Lib.hid (W9.out.trans hw11)
            have S11 := Lib.hid hs11
            have HN1_11 := Lib.hid (S9.out.keepT (t := 37) HN1_9.out (by decide) hw11)
            clear hw11 hs11 HC11
            have hmm : ∀ (t : TypeId) (w : World), (Instr.makeMap t none).run Try.prog w = .ok (.map (some w.heap.size)) (w.alloc (.map #[] 0)) := fun _ _ => rfl
            obtain ⟨es, ck, wA, wB, wC, wD, hr1, hr2, hr3, hr4, hoD, hlk⟩ := kinds_ w11
            have SD := Lib.hid (S11.out.grow hoD)
            have WD := Lib.hid (W11.out.trans (Wr.same nv11 dv11 hoD))
            have cw : wD.cell? ⟨w1.heap.size, 0, none⟩ = some (.int .i64 (syn.next l s).1) := (cellOf (hoD.keeps HN1_11.out (fun e => e)) 0).trans rfl
            replace hlk := hlk (syn.next l s).1
            obtain ⟨kk, hkk⟩ : ∃ q, q = (syn.next l s).1 := ⟨_, rfl⟩
            have HKK := Lib.hid hkk
            rw [← hkk] at hlk cw
            clear hkk hoD
            have hsd := sure_yes (ptr pb) wD
            cases hkd : syn.kindOf kk with
            | none =>
              rw [hkd] at hlk
              simp only [Option.map_none, Option.getD_none, Option.isSome_none] at hlk
              go_wp2_with fail
              refine (sure_no _ _).mono ?_
              rintro e w30 ⟨rfl, rfl⟩
              refine ⟨rfl, post_bad (s' := s) (EQ11.out.trans ?_) WD.out rfl SD.out⟩
              show (match syn.kindOf (syn.next l s).1 with | none => syn.fail | some kd => _ : syn.Pr Nat) l s = _
              rw [← HKK.out, hkd]
              rfl
            | some kd =>
              rw [hkd] at hlk
              simp only [Option.map_some, Option.getD_some, Option.isSome_some] at hlk
              have hpl : s.at_ < l.length := by
                rcases Nat.lt_or_ge s.at_ l.length with h1 | h1
                · exact h1
                · have := HKK.out
                  rw [syn.next_end h1] at this
                  rw [this] at hkd
                  exact absurd hkd (by simp [syn.kindOf])
              have HKD := Lib.hid hkd
              clear hkd hsd
              go_wp2_with fail
              refine (sure_yes _ _).mono ?_
              rintro e w30 ⟨rfl, rfl⟩
              clear hlk cw hr1 hr2 hr3 hr4
              go_wp2_with fail
              refine (take_calls SD.out hpl).mono ?_
              rintro e w31 ⟨rfl, h31, hw31⟩
              have S31 := Lib.hid h31
              have W31 := Lib.hid (WD.out.trans hw31)
              clear h31 hw31
              have EQ31 := Lib.hid (show syn.plain K (k + 1) l s = syn.node kd (syn.next l s).2 [] l { s with at_ := s.at_ + 1 } from EQ11.out.trans (by
                show (match syn.kindOf (syn.next l s).1 with | none => syn.fail | some kd => (syn.acc fun v => (syn.kindOf v.1).isSome).bind fun r => match r with | none => syn.fail | some t => syn.node kd t [] : syn.Pr Nat) l s = _
                rw [← HKK.out, HKD.out]
                exact bind_ok (show syn.acc (fun v => (syn.kindOf v.1).isSome) l s = .ok (some (syn.next l s).2) { s with at_ := s.at_ + 1 } from by unfold syn.acc; rw [if_pos (by show (syn.kindOf (syn.next l s).1).isSome = true; rw [← HKK.out, HKD.out]; rfl)])))
              go_wp2_with fail
              refine (node_calls S31.out kd (syn.next l s).2 (.slice none 0 0) [] (.inl ⟨rfl, none, 0, rfl⟩) (fun k hk => by cases hk) (by show s.n.length ≤ 2 * (s.at_ + 1); omega) (by simp)).mono ?_
              rintro e w32 ⟨nv32, dv32, hw32, v32, rfl, rfl, hs32⟩
              have W32 := Lib.hid (W31.out.trans hw32)
              have S32 := Lib.hid hs32
              clear hw32 hs32
              go_wp2_with fail
              go_ret
              exact post_ok (EQ31.out.trans rfl) W32.out rfl S32.out
end
end Go.Proofs.Ytoggcdldoinbnaa
