/- The parser's left: things with operators between them. -/
import Derived.Test.YtoggcdldoinbnaaSynN
import Derived.Test.YtoggcdldoinbnaaSynK
import Derived.Deep.LoopGhost
namespace Go.Proofs.Ytoggcdldoinbnaa
open Go.RowKit
open syn (Tok Nd PS)
set_option linter.unusedVariables false

theorem bind_ok {α β : Type} {p : syn.Pr α} {f : α → syn.Pr β} {l : List Tok} {s s' : PS} {x : α} (h : p l s = .ok x s') : (p.bind f) l s = f x l s' := by unfold syn.Pr.bind; rw [h]
theorem bind_bad {α β : Type} {p : syn.Pr α} {f : α → syn.Pr β} {l : List Tok} {s : PS} {q : Nat} (h : p l s = .bad q) : (p.bind f) l s = .bad q := by unfold syn.Pr.bind; rw [h]
section
variable (F : Nat → Prop) (lo : Nat) (w0 : World) (a : Option Addr) (l : List Tok) (c pb : Nat)
/-- A function of the parser's that makes one node, called with less than k words to come. -/
def Part (N k : Nat) (p : syn.Pr Nat) : Prop := ∀ w nv dv s, St F lo w0 a l c pb w nv dv s → s.n.length ≤ 2 * s.at_ → l.length - s.at_ < k → Calls Try.prog N #[ptr pb] w fun e w' => Post F lo w0 a l c pb eN (p l s) nv dv w e w'
end
section
variable {F : Nat → Prop} {lo : Nat} {w0 : World} {a : Option Addr} {l : List Tok} {c pb : Nat} {w w' : World} {nv dv nv' dv' : Value} {s : PS}
theorem St.ops (h : St F lo w0 a l c pb w nv dv s) {g : Nat} {cs : Array Value} (hg : w.heap[g]? = some (.cells cs 9 (0, 0))) (hw : Wr pb nv dv w w' nv' dv') : w'.heap[g]? = some (.cells cs 9 (0, 0)) :=
  hw.only.keeps hg (h.other hg ⟨by decide, by decide, fun e => absurd e (by decide)⟩)
theorem acc_yes {kind : Int} {ops : List ByteArray} (h : syn.isOne kind ops (syn.next l s) = true) : syn.acc (syn.isOne kind ops) l s = .ok (some (syn.next l s).2) { s with at_ := s.at_ + 1 } := by unfold syn.acc; rw [if_pos h]
theorem acc_no {kind : Int} {ops : List ByteArray} (h : syn.isOne kind ops (syn.next l s) = false) : syn.acc (syn.isOne kind ops) l s = .ok none s := by unfold syn.acc; rw [if_neg (by rw [h]; decide)]
theorem two_get (x y : Nat) : ∀ (i k : Nat), [x, y][i]? = some k → (#[natV x, natV y] : Array Value)[i]? = some (natV k) := by
  intro i k h
  match i, h with
  | 0, h => simp at h; subst h; rfl
  | 1, h => simp at h; subst h; rfl
  | n + 2, h => simp at h

set_option maxRecDepth 20000 in
set_option maxHeartbeats 4000000 in
theorem left_both {k K : Nat} {part : syn.Pr Nat} (hpart : Part F lo w0 a l c pb 40 k part) (ho : syn.One part) (kind : Int) (hk : kind ≠ 0) (ops : List ByteArray) (g cc : Nat) (hlen : ops.length ≤ 1000) (h : St F lo w0 a l c pb w nv dv s) (hsm : s.n.length ≤ 2 * s.at_) (hfu : l.length - s.at_ < k) (hK : l.length < K)
    (hops : w.heap[g]? = some (.cells (ops.map Value.string).toArray 9 (0, 0))) :
    Calls Try.prog 39 #[ptr pb, .func (.func 40) #[ptr pb] #[], .int .i64 kind, .slice (some ⟨g, 0, none⟩) ops.length cc] w fun e w' => Post F lo w0 a l c pb eN (syn.left K part kind ops l s) nv dv w e w' := by
  have H := Lib.hid h
  have HP := Lib.hid hpart
  have HO := Lib.hid hops
  have W0 := Lib.hid (Wr.refl pb nv dv w)
  clear h hpart hops
  unfold syn.left
  go_enter Try.func39, Try.ntmps39
  go_wp2_with fail
  refine (HP.out w nv dv s H.out hsm hfu).mono ?_
  rintro e w1 ⟨nv1, dv1, hw1, hr1⟩
  have W1 := Lib.hid (W0.out.trans hw1)
  clear hw1
  cases hp1 : part l s with
  | bad q =>
    rw [hp1] at hr1
    obtain ⟨rfl, s', hq, hs⟩ := hr1
    exact ⟨rfl, post_bad (bind_bad hp1) W1.out hq hs⟩
  | ok x1 s1 =>
    rw [hp1] at hr1
    obtain ⟨v, rfl, rfl, hs⟩ := hr1
    have S1 := Lib.hid hs
    have HP1 := Lib.hid hp1
    clear hs hp1
    have HO1 := Lib.hid (H.out.ops HO.out W1.out)
    have hget := ho.get HP1.out
    go_wp2_with fail
    go_loopg [9] (l.length) (fun gg v9 wr => ∃ (f x : Nat) (s1 : PS) (nv1 dv1 : Value), v9 = natV x ∧ l.length - s1.at_ ≤ gg ∧ Hid (Wr pb nv dv w wr nv1 dv1) ∧ Hid (St F lo w0 a l c pb wr nv1 dv1 s1) ∧ Hid ((part.bind fun x => syn.leftGo part kind ops K x) l s = syn.leftGo part kind ops f x l s1) ∧ l.length - s1.at_ < f ∧ x < s1.n.length ∧ s1.n.length + 1 ≤ 2 * s1.at_ ∧ s.at_ ≤ s1.at_ ∧ Hid (wr.heap[g]? = some (.cells (ops.map Value.string).toArray 9 (0, 0))))
    case atStart => exact ⟨K, x1, s1, nv1, dv1, rfl, by omega, W1, S1, Lib.hid (bind_ok HP1.out), by omega, hget.1, by omega, by omega, HO1⟩
    case round =>
      clear HO1 hget HP1 S1 W1 HO
      obtain ⟨f, x, s2, nv2, dv2, rfl, hgk, W2, S2, EQ, hf, hx, hsm2, hat, HO2⟩ := hrel
      obtain ⟨f, rfl⟩ : ∃ f', f = f' + 1 := ⟨f - 1, by omega⟩
      have HSE := Lib.hid (sees_calls S2.out kind ops g cc HO2.out hlen)
      obtain ⟨y, hy⟩ : ∃ y, syn.isOne kind ops (syn.next l s2) = y := ⟨_, rfl⟩
      rw [hy] at HSE
      have HY := Lib.hid hy
      clear hy
      cases y with
      | false =>
        go_wp2_with fail
        refine HSE.out.mono ?_
        rintro e w3 ⟨rfl, o3⟩
        have S3 := Lib.hid (S2.out.grow o3)
        have W3 := Lib.hid (W2.out.trans (Wr.same nv2 dv2 o3))
        clear o3
        go_wp2_with fail
        go_ret
        refine post_ok (EQ.out.trans ?_) W3.out rfl S3.out
        rw [syn.leftGo]
        exact bind_ok (acc_no HY.out)
      | true =>
        have hp2 := one_lt hk HY.out
        go_wp2_with fail
        refine HSE.out.mono ?_
        rintro e w3 ⟨rfl, o3⟩
        have S3 := Lib.hid (S2.out.grow o3)
        have W3 := Lib.hid (W2.out.trans (Wr.same nv2 dv2 o3))
        have HO3 := Lib.hid (o3.keeps HO2.out (fun e => e))
        clear o3
        go_wp2_with fail
        refine (take_calls S3.out hp2).mono ?_
        rintro e w4 ⟨rfl, h4, hw4⟩
        have S4 := Lib.hid h4
        have W4 := Lib.hid (W3.out.trans hw4)
        have HO4 := Lib.hid (S3.out.ops HO3.out hw4)
        have EQ4 := Lib.hid (show (part.bind fun x => syn.leftGo part kind ops K x) l s = (part.bind fun y => (syn.node 19 (syn.next l s2).2 [x, y]).bind fun z => syn.leftGo part kind ops f z) l { s2 with at_ := s2.at_ + 1 } from EQ.out.trans (by rw [syn.leftGo]; exact bind_ok (acc_yes HY.out)))
        clear h4 hw4 EQ
        go_wp2_with fail
        refine (HP.out w4 nv2 dv2 _ S4.out (by show s2.n.length ≤ 2 * (s2.at_ + 1); omega) (by show l.length - (s2.at_ + 1) < k; omega)).mono ?_
        rintro e w5 ⟨nv5, dv5, hw5, hr5⟩
        have W5 := Lib.hid (W4.out.trans hw5)
        have HW5 := Lib.hid hw5
        clear hw5
        cases hp5 : part l { s2 with at_ := s2.at_ + 1 } with
        | bad q =>
          rw [hp5] at hr5
          obtain ⟨rfl, s', hq, hs⟩ := hr5
          exact ⟨rfl, post_bad (EQ4.out.trans (bind_bad hp5)) W5.out hq hs⟩
        | ok x5 s5 =>
          rw [hp5] at hr5
          obtain ⟨v, rfl, rfl, hs⟩ := hr5
          have S5 := Lib.hid hs
          have HP5 := Lib.hid hp5
          clear hs hp5
          have hg5 := ho.get HP5.out
          simp only at hg5
          have HO5 := Lib.hid (S4.out.ops HO4.out HW5.out)
          have EQ5 := Lib.hid (EQ4.out.trans (bind_ok HP5.out))
          go_wp2_with fail
          have o6 := (Only.refl (fun _ => False) w5).alloc (.cells #[natV x, natV x5] 3)
          have S6 := Lib.hid (S5.out.grow o6)
          have W6 := Lib.hid (W5.out.trans (Wr.same nv5 dv5 o6))
          have HO6 := Lib.hid (o6.keeps HO5.out (fun e => e))
          have K6 := Lib.hid (show KidsOk F lo (w5.alloc (.cells #[natV x, natV x5] 3)) dv5 (.slice (some ⟨w5.heap.size, 0, none⟩) 2 2) [x, x5] from .inr ⟨w5.heap.size, 2, _, rfl, S5.out.hlo, heap_alloc_new w5 _, fun i k hi => two_get x x5 i k hi, fun e => by have := (S5.out.depth.lt _ e).2; omega, fun e => by have := S5.out.fin _ e; omega⟩)
          refine (node_calls S6.out 19 _ _ [x, x5] K6.out (fun k hk => by simp at hk; rcases hk with rfl | rfl <;> omega) (by omega) (by simp)).mono ?_
          rintro e w7 ⟨nv7, dv7, hw7, v, rfl, rfl, hs7⟩
          have S7 := Lib.hid hs7
          have W7 := Lib.hid (W6.out.trans hw7)
          have HO7 := Lib.hid (S6.out.ops HO6.out hw7)
          clear hw7 hs7 o6
          go_wp2_with fail
          go_roundg (l.length - s5.at_)
          case measure => omega
          case rel => exact ⟨f, s5.n.length, ⟨s5.at_, s5.n ++ [⟨19, (syn.next l s2).2, [x, x5]⟩], s5.d ++ [syn.depthOf s5.d [x, x5]]⟩, nv7, dv7, rfl, Nat.le_refl _, W7, S7, Lib.hid (EQ5.out.trans (bind_ok rfl)), by show l.length - s5.at_ < f; omega, by simp, by simp only [List.length_append, List.length_cons, List.length_nil]; omega, by show s.at_ ≤ s5.at_; omega, HO7⟩

set_option maxRecDepth 20000 in
set_option maxHeartbeats 4000000 in
theorem left_equal {k K : Nat} {part : syn.Pr Nat} (hpart : Part F lo w0 a l c pb 44 k part) (ho : syn.One part) (kind : Int) (hk : kind ≠ 0) (ops : List ByteArray) (g cc : Nat) (hlen : ops.length ≤ 1000) (h : St F lo w0 a l c pb w nv dv s) (hsm : s.n.length ≤ 2 * s.at_) (hfu : l.length - s.at_ < k) (hK : l.length < K)
    (hops : w.heap[g]? = some (.cells (ops.map Value.string).toArray 9 (0, 0))) :
    Calls Try.prog 39 #[ptr pb, .func (.func 44) #[ptr pb] #[], .int .i64 kind, .slice (some ⟨g, 0, none⟩) ops.length cc] w fun e w' => Post F lo w0 a l c pb eN (syn.left K part kind ops l s) nv dv w e w' := by
  have H := Lib.hid h
  have HP := Lib.hid hpart
  have HO := Lib.hid hops
  have W0 := Lib.hid (Wr.refl pb nv dv w)
  clear h hpart hops
  unfold syn.left
  go_enter Try.func39, Try.ntmps39
  go_wp2_with fail
  refine (HP.out w nv dv s H.out hsm hfu).mono ?_
  rintro e w1 ⟨nv1, dv1, hw1, hr1⟩
  have W1 := Lib.hid (W0.out.trans hw1)
  clear hw1
  cases hp1 : part l s with
  | bad q =>
    rw [hp1] at hr1
    obtain ⟨rfl, s', hq, hs⟩ := hr1
    exact ⟨rfl, post_bad (bind_bad hp1) W1.out hq hs⟩
  | ok x1 s1 =>
    rw [hp1] at hr1
    obtain ⟨v, rfl, rfl, hs⟩ := hr1
    have S1 := Lib.hid hs
    have HP1 := Lib.hid hp1
    clear hs hp1
    have HO1 := Lib.hid (H.out.ops HO.out W1.out)
    have hget := ho.get HP1.out
    go_wp2_with fail
    go_loopg [9] (l.length) (fun gg v9 wr => ∃ (f x : Nat) (s1 : PS) (nv1 dv1 : Value), v9 = natV x ∧ l.length - s1.at_ ≤ gg ∧ Hid (Wr pb nv dv w wr nv1 dv1) ∧ Hid (St F lo w0 a l c pb wr nv1 dv1 s1) ∧ Hid ((part.bind fun x => syn.leftGo part kind ops K x) l s = syn.leftGo part kind ops f x l s1) ∧ l.length - s1.at_ < f ∧ x < s1.n.length ∧ s1.n.length + 1 ≤ 2 * s1.at_ ∧ s.at_ ≤ s1.at_ ∧ Hid (wr.heap[g]? = some (.cells (ops.map Value.string).toArray 9 (0, 0))))
    case atStart => exact ⟨K, x1, s1, nv1, dv1, rfl, by omega, W1, S1, Lib.hid (bind_ok HP1.out), by omega, hget.1, by omega, by omega, HO1⟩
    case round =>
      clear HO1 hget HP1 S1 W1 HO
      obtain ⟨f, x, s2, nv2, dv2, rfl, hgk, W2, S2, EQ, hf, hx, hsm2, hat, HO2⟩ := hrel
      obtain ⟨f, rfl⟩ : ∃ f', f = f' + 1 := ⟨f - 1, by omega⟩
      have HSE := Lib.hid (sees_calls S2.out kind ops g cc HO2.out hlen)
      obtain ⟨y, hy⟩ : ∃ y, syn.isOne kind ops (syn.next l s2) = y := ⟨_, rfl⟩
      rw [hy] at HSE
      have HY := Lib.hid hy
      clear hy
      cases y with
      | false =>
        go_wp2_with fail
        refine HSE.out.mono ?_
        rintro e w3 ⟨rfl, o3⟩
        have S3 := Lib.hid (S2.out.grow o3)
        have W3 := Lib.hid (W2.out.trans (Wr.same nv2 dv2 o3))
        clear o3
        go_wp2_with fail
        go_ret
        refine post_ok (EQ.out.trans ?_) W3.out rfl S3.out
        rw [syn.leftGo]
        exact bind_ok (acc_no HY.out)
      | true =>
        have hp2 := one_lt hk HY.out
        go_wp2_with fail
        refine HSE.out.mono ?_
        rintro e w3 ⟨rfl, o3⟩
        have S3 := Lib.hid (S2.out.grow o3)
        have W3 := Lib.hid (W2.out.trans (Wr.same nv2 dv2 o3))
        have HO3 := Lib.hid (o3.keeps HO2.out (fun e => e))
        clear o3
        go_wp2_with fail
        refine (take_calls S3.out hp2).mono ?_
        rintro e w4 ⟨rfl, h4, hw4⟩
        have S4 := Lib.hid h4
        have W4 := Lib.hid (W3.out.trans hw4)
        have HO4 := Lib.hid (S3.out.ops HO3.out hw4)
        have EQ4 := Lib.hid (show (part.bind fun x => syn.leftGo part kind ops K x) l s = (part.bind fun y => (syn.node 19 (syn.next l s2).2 [x, y]).bind fun z => syn.leftGo part kind ops f z) l { s2 with at_ := s2.at_ + 1 } from EQ.out.trans (by rw [syn.leftGo]; exact bind_ok (acc_yes HY.out)))
        clear h4 hw4 EQ
        go_wp2_with fail
        refine (HP.out w4 nv2 dv2 _ S4.out (by show s2.n.length ≤ 2 * (s2.at_ + 1); omega) (by show l.length - (s2.at_ + 1) < k; omega)).mono ?_
        rintro e w5 ⟨nv5, dv5, hw5, hr5⟩
        have W5 := Lib.hid (W4.out.trans hw5)
        have HW5 := Lib.hid hw5
        clear hw5
        cases hp5 : part l { s2 with at_ := s2.at_ + 1 } with
        | bad q =>
          rw [hp5] at hr5
          obtain ⟨rfl, s', hq, hs⟩ := hr5
          exact ⟨rfl, post_bad (EQ4.out.trans (bind_bad hp5)) W5.out hq hs⟩
        | ok x5 s5 =>
          rw [hp5] at hr5
          obtain ⟨v, rfl, rfl, hs⟩ := hr5
          have S5 := Lib.hid hs
          have HP5 := Lib.hid hp5
          clear hs hp5
          have hg5 := ho.get HP5.out
          simp only at hg5
          have HO5 := Lib.hid (S4.out.ops HO4.out HW5.out)
          have EQ5 := Lib.hid (EQ4.out.trans (bind_ok HP5.out))
          go_wp2_with fail
          have o6 := (Only.refl (fun _ => False) w5).alloc (.cells #[natV x, natV x5] 3)
          have S6 := Lib.hid (S5.out.grow o6)
          have W6 := Lib.hid (W5.out.trans (Wr.same nv5 dv5 o6))
          have HO6 := Lib.hid (o6.keeps HO5.out (fun e => e))
          have K6 := Lib.hid (show KidsOk F lo (w5.alloc (.cells #[natV x, natV x5] 3)) dv5 (.slice (some ⟨w5.heap.size, 0, none⟩) 2 2) [x, x5] from .inr ⟨w5.heap.size, 2, _, rfl, S5.out.hlo, heap_alloc_new w5 _, fun i k hi => two_get x x5 i k hi, fun e => by have := (S5.out.depth.lt _ e).2; omega, fun e => by have := S5.out.fin _ e; omega⟩)
          refine (node_calls S6.out 19 _ _ [x, x5] K6.out (fun k hk => by simp at hk; rcases hk with rfl | rfl <;> omega) (by omega) (by simp)).mono ?_
          rintro e w7 ⟨nv7, dv7, hw7, v, rfl, rfl, hs7⟩
          have S7 := Lib.hid hs7
          have W7 := Lib.hid (W6.out.trans hw7)
          have HO7 := Lib.hid (S6.out.ops HO6.out hw7)
          clear hw7 hs7 o6
          go_wp2_with fail
          go_roundg (l.length - s5.at_)
          case measure => omega
          case rel => exact ⟨f, s5.n.length, ⟨s5.at_, s5.n ++ [⟨19, (syn.next l s2).2, [x, x5]⟩], s5.d ++ [syn.depthOf s5.d [x, x5]]⟩, nv7, dv7, rfl, Nat.le_refl _, W7, S7, Lib.hid (EQ5.out.trans (bind_ok rfl)), by show l.length - s5.at_ < f; omega, by simp, by simp only [List.length_append, List.length_cons, List.length_nil]; omega, by show s.at_ ≤ s5.at_; omega, HO7⟩

set_option maxRecDepth 20000 in
set_option maxHeartbeats 4000000 in
theorem left_plain {k K : Nat} {part : syn.Pr Nat} (hpart : Part F lo w0 a l c pb 47 k part) (ho : syn.One part) (kind : Int) (hk : kind ≠ 0) (ops : List ByteArray) (g cc : Nat) (hlen : ops.length ≤ 1000) (h : St F lo w0 a l c pb w nv dv s) (hsm : s.n.length ≤ 2 * s.at_) (hfu : l.length - s.at_ < k) (hK : l.length < K)
    (hops : w.heap[g]? = some (.cells (ops.map Value.string).toArray 9 (0, 0))) :
    Calls Try.prog 39 #[ptr pb, .func (.func 47) #[ptr pb] #[], .int .i64 kind, .slice (some ⟨g, 0, none⟩) ops.length cc] w fun e w' => Post F lo w0 a l c pb eN (syn.left K part kind ops l s) nv dv w e w' := by
  have H := Lib.hid h
  have HP := Lib.hid hpart
  have HO := Lib.hid hops
  have W0 := Lib.hid (Wr.refl pb nv dv w)
  clear h hpart hops
  unfold syn.left
  go_enter Try.func39, Try.ntmps39
  go_wp2_with fail
  refine (HP.out w nv dv s H.out hsm hfu).mono ?_
  rintro e w1 ⟨nv1, dv1, hw1, hr1⟩
  have W1 := Lib.hid (W0.out.trans hw1)
  clear hw1
  cases hp1 : part l s with
  | bad q =>
    rw [hp1] at hr1
    obtain ⟨rfl, s', hq, hs⟩ := hr1
    exact ⟨rfl, post_bad (bind_bad hp1) W1.out hq hs⟩
  | ok x1 s1 =>
    rw [hp1] at hr1
    obtain ⟨v, rfl, rfl, hs⟩ := hr1
    have S1 := Lib.hid hs
    have HP1 := Lib.hid hp1
    clear hs hp1
    have HO1 := Lib.hid (H.out.ops HO.out W1.out)
    have hget := ho.get HP1.out
    go_wp2_with fail
    go_loopg [9] (l.length) (fun gg v9 wr => ∃ (f x : Nat) (s1 : PS) (nv1 dv1 : Value), v9 = natV x ∧ l.length - s1.at_ ≤ gg ∧ Hid (Wr pb nv dv w wr nv1 dv1) ∧ Hid (St F lo w0 a l c pb wr nv1 dv1 s1) ∧ Hid ((part.bind fun x => syn.leftGo part kind ops K x) l s = syn.leftGo part kind ops f x l s1) ∧ l.length - s1.at_ < f ∧ x < s1.n.length ∧ s1.n.length + 1 ≤ 2 * s1.at_ ∧ s.at_ ≤ s1.at_ ∧ Hid (wr.heap[g]? = some (.cells (ops.map Value.string).toArray 9 (0, 0))))
    case atStart => exact ⟨K, x1, s1, nv1, dv1, rfl, by omega, W1, S1, Lib.hid (bind_ok HP1.out), by omega, hget.1, by omega, by omega, HO1⟩
    case round =>
      clear HO1 hget HP1 S1 W1 HO
      obtain ⟨f, x, s2, nv2, dv2, rfl, hgk, W2, S2, EQ, hf, hx, hsm2, hat, HO2⟩ := hrel
      obtain ⟨f, rfl⟩ : ∃ f', f = f' + 1 := ⟨f - 1, by omega⟩
      have HSE := Lib.hid (sees_calls S2.out kind ops g cc HO2.out hlen)
      obtain ⟨y, hy⟩ : ∃ y, syn.isOne kind ops (syn.next l s2) = y := ⟨_, rfl⟩
      rw [hy] at HSE
      have HY := Lib.hid hy
      clear hy
      cases y with
      | false =>
        go_wp2_with fail
        refine HSE.out.mono ?_
        rintro e w3 ⟨rfl, o3⟩
        have S3 := Lib.hid (S2.out.grow o3)
        have W3 := Lib.hid (W2.out.trans (Wr.same nv2 dv2 o3))
        clear o3
        go_wp2_with fail
        go_ret
        refine post_ok (EQ.out.trans ?_) W3.out rfl S3.out
        rw [syn.leftGo]
        exact bind_ok (acc_no HY.out)
      | true =>
        have hp2 := one_lt hk HY.out
        go_wp2_with fail
        refine HSE.out.mono ?_
        rintro e w3 ⟨rfl, o3⟩
        have S3 := Lib.hid (S2.out.grow o3)
        have W3 := Lib.hid (W2.out.trans (Wr.same nv2 dv2 o3))
        have HO3 := Lib.hid (o3.keeps HO2.out (fun e => e))
        clear o3
        go_wp2_with fail
        refine (take_calls S3.out hp2).mono ?_
        rintro e w4 ⟨rfl, h4, hw4⟩
        have S4 := Lib.hid h4
        have W4 := Lib.hid (W3.out.trans hw4)
        have HO4 := Lib.hid (S3.out.ops HO3.out hw4)
        have EQ4 := Lib.hid (show (part.bind fun x => syn.leftGo part kind ops K x) l s = (part.bind fun y => (syn.node 19 (syn.next l s2).2 [x, y]).bind fun z => syn.leftGo part kind ops f z) l { s2 with at_ := s2.at_ + 1 } from EQ.out.trans (by rw [syn.leftGo]; exact bind_ok (acc_yes HY.out)))
        clear h4 hw4 EQ
        go_wp2_with fail
        refine (HP.out w4 nv2 dv2 _ S4.out (by show s2.n.length ≤ 2 * (s2.at_ + 1); omega) (by show l.length - (s2.at_ + 1) < k; omega)).mono ?_
        rintro e w5 ⟨nv5, dv5, hw5, hr5⟩
        have W5 := Lib.hid (W4.out.trans hw5)
        have HW5 := Lib.hid hw5
        clear hw5
        cases hp5 : part l { s2 with at_ := s2.at_ + 1 } with
        | bad q =>
          rw [hp5] at hr5
          obtain ⟨rfl, s', hq, hs⟩ := hr5
          exact ⟨rfl, post_bad (EQ4.out.trans (bind_bad hp5)) W5.out hq hs⟩
        | ok x5 s5 =>
          rw [hp5] at hr5
          obtain ⟨v, rfl, rfl, hs⟩ := hr5
          have S5 := Lib.hid hs
          have HP5 := Lib.hid hp5
          clear hs hp5
          have hg5 := ho.get HP5.out
          simp only at hg5
          have HO5 := Lib.hid (S4.out.ops HO4.out HW5.out)
          have EQ5 := Lib.hid (EQ4.out.trans (bind_ok HP5.out))
          go_wp2_with fail
          have o6 := (Only.refl (fun _ => False) w5).alloc (.cells #[natV x, natV x5] 3)
          have S6 := Lib.hid (S5.out.grow o6)
          have W6 := Lib.hid (W5.out.trans (Wr.same nv5 dv5 o6))
          have HO6 := Lib.hid (o6.keeps HO5.out (fun e => e))
          have K6 := Lib.hid (show KidsOk F lo (w5.alloc (.cells #[natV x, natV x5] 3)) dv5 (.slice (some ⟨w5.heap.size, 0, none⟩) 2 2) [x, x5] from .inr ⟨w5.heap.size, 2, _, rfl, S5.out.hlo, heap_alloc_new w5 _, fun i k hi => two_get x x5 i k hi, fun e => by have := (S5.out.depth.lt _ e).2; omega, fun e => by have := S5.out.fin _ e; omega⟩)
          refine (node_calls S6.out 19 _ _ [x, x5] K6.out (fun k hk => by simp at hk; rcases hk with rfl | rfl <;> omega) (by omega) (by simp)).mono ?_
          rintro e w7 ⟨nv7, dv7, hw7, v, rfl, rfl, hs7⟩
          have S7 := Lib.hid hs7
          have W7 := Lib.hid (W6.out.trans hw7)
          have HO7 := Lib.hid (S6.out.ops HO6.out hw7)
          clear hw7 hs7 o6
          go_wp2_with fail
          go_roundg (l.length - s5.at_)
          case measure => omega
          case rel => exact ⟨f, s5.n.length, ⟨s5.at_, s5.n ++ [⟨19, (syn.next l s2).2, [x, x5]⟩], s5.d ++ [syn.depthOf s5.d [x, x5]]⟩, nv7, dv7, rfl, Nat.le_refl _, W7, S7, Lib.hid (EQ5.out.trans (bind_ok rfl)), by show l.length - s5.at_ < f; omega, by simp, by simp only [List.length_append, List.length_cons, List.length_nil]; omega, by show s.at_ ≤ s5.at_; omega, HO7⟩
end
end Go.Proofs.Ytoggcdldoinbnaa
