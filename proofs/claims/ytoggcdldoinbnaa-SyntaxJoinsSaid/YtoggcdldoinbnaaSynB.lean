/- The parser's blocks, chains, classes and statements. -/
import Derived.Test.YtoggcdldoinbnaaSynS
namespace Go.Proofs.Ytoggcdldoinbnaa
open Go.RowKit
open syn (Tok Nd PS)
set_option linter.unusedVariables false
set_option linter.unusedSimpArgs false

section
variable {F : Nat → Prop} {lo : Nat} {w0 : World} {a : Option Addr} {l : List Tok} {c pb : Nat} {w w' : World} {nv dv nv' dv' : Value} {s : PS}
/-- A slice of nodes, laid in a new block. -/
theorem laid_ (h : St F lo w0 a l c pb w nv dv s) (xs : List Nat) (hx : xs.length ≤ 1000) {we : World} (hwe : we.heap.size ≤ w.heap.size) :
    Loc F lo (w.alloc (.cells (xs.map natV).toArray 3)) dv (.slice (some ⟨w.heap.size, 0, none⟩) xs.length xs.length) xs ∧ St (fun q => F q ∨ (Value.slice (some ⟨w.heap.size, 0, none⟩) xs.length xs.length).ownBlock = some q) lo w0 a l c pb (w.alloc (.cells (xs.map natV).toArray 3)) nv dv s ∧
      ∀ q, (Value.slice (some ⟨w.heap.size, 0, none⟩) xs.length xs.length).ownBlock = some q → we.heap.size ≤ q := by
  have hq : ∀ q, (Value.slice (some ⟨w.heap.size, 0, none⟩) xs.length xs.length).ownBlock = some q → q = w.heap.size := fun q e => by simpa [Value.ownBlock] using e.symm
  have o := (Only.refl (fun _ => False) w).alloc (.cells (xs.map natV).toArray 3)
  have hg := h.grow o
  obtain ⟨kv, h1, h2, h3⟩ := h.nodes
  obtain ⟨kv', h1', h2', h3'⟩ := hg.nodes
  refine ⟨⟨⟨by simp, .inr ⟨w.heap.size, xs.length, _, rfl, h.hlo, heap_alloc_new w _, Nat.le_refl _, by unfold maxLen; omega, by simp, by rw [Nat.mul_one]; exact List.take_of_length_le (by simp)⟩⟩, fun q e => ?_⟩, ?_, fun q e => by have := hq q e; omega⟩
  · have := hq q e
    subst this
    exact ⟨fun e2 => by have := (h.depth.lt _ e2).2; omega, fun e2 => by have := h.fin _ e2; omega⟩
  · refine { hg with nodes := ⟨kv, h1, own_keep h2 o (fun _ _ e => e), fun i nd v h4 h5 => ?_⟩, fin := fun q e => ?_ }
    · rcases h3 i nd v h4 h5 with h6 | ⟨g, cc, cur, e, h7, h8, h9, h10, h11⟩
      · exact .inl h6
      · refine .inr ⟨g, cc, cur, e, h7, o.keeps h8 (fun e => e), h9, h10, fun e2 => ?_⟩
        rcases e2 with e2 | e2
        · exact h11 e2
        · have := hq g e2
          have := lt_of_heap h8
          omega
    · rcases e with e | e
      · have := h.fin q e; simp; omega
      · have := hq q e; simp; omega

set_option maxRecDepth 20000 in
set_option maxHeartbeats 4000000 in
theorem block_part {k K : Nat} {st : syn.Pr Nat} (hst : ∀ F, Part F lo w0 a l c pb 13 k st) (ho : syn.One st) (hK : l.length < K) : Part F lo w0 a l c pb 21 k (syn.block K st) := by
  have HS := Lib.hid hst
  clear hst
  intro w nv dv s h hsm hfu
  have H := Lib.hid h
  have W0 := Lib.hid (Wr.refl pb nv dv w)
  have EQ0 := Lib.hid (show syn.block K st l s = ((syn.must ⟨#[123]⟩).bind fun _ => syn.blockGo st K []) l s from rfl)
  have HV := Lib.hid (value_all (F := F) (lo := lo) (w0 := w0) (a := a) (l := l) (c := c) (pb := pb) hK)
  obtain ⟨i1, hi1⟩ := int_info
  have HJ := Lib.hid hi1
  have hfew := h.few
  clear h hi1
  go_enter Try.func21, Try.ntmps21
  go_wp2_with fail
  refine (must_calls H.out ⟨#[123]⟩).mono ?_
  rintro e w1 ⟨nv1, dv1, hw1, hr1⟩
  have W1 := Lib.hid (W0.out.trans hw1)
  have HW1 := Lib.hid hw1
  clear hw1
  cases hp1 : syn.must ⟨#[123]⟩ l s with
  | bad q =>
    rw [hp1] at hr1
    obtain ⟨rfl, s', hq, hs⟩ := hr1
    exact ⟨rfl, post_bad (EQ0.out.trans (bind_bad hp1)) W1.out hq hs⟩
  | ok x1 s1 =>
    rw [hp1] at hr1
    obtain ⟨v1, rfl, rfl, hs⟩ := hr1
    have S1 := Lib.hid hs
    have hc1 := syn.Costs.must ⟨#[123]⟩ l s x1 s1 hp1
    try simp only at hc1
    have hE := EQ0.out.trans (bind_ok hp1)
    try simp only [if_true, if_false, Bool.false_eq_true, Option.isSome] at hE
    have EQ1 := Lib.hid hE
    clear hE
    clear hs hp1
    go_wp2_with fail
    go_loopg [3] (l.length) (fun gg v3 wr => ∃ (f : Nat) (xs : List Nat) (s1 : PS) (nv1 dv1 lv : Value), v3 = lv ∧ l.length - s1.at_ ≤ gg ∧ l.length - s1.at_ < f ∧ (∀ x ∈ xs, x < s1.n.length) ∧ s1.n.length ≤ 2 * s1.at_ ∧ s.at_ + 1 ≤ s1.at_ ∧ xs.length ≤ s1.at_ ∧ Hid (Loc F lo wr dv1 lv xs) ∧ Hid (St (fun q => F q ∨ lv.ownBlock = some q) lo w0 a l c pb wr nv1 dv1 s1) ∧ Hid (Wr pb nv dv w wr nv1 dv1) ∧ Hid (∀ q, lv.ownBlock = some q → w.heap.size ≤ q) ∧ Hid (syn.block K st l s = syn.blockGo st f xs l s1))
    case atStart => exact ⟨K, [], s1, nv1, dv1, .slice none 0 0, rfl, by omega, by omega, (fun x hx => by cases hx), by omega, by omega, by simp, Lib.hid (Loc.nil F lo _ _), Lib.hid S1.out.none_, W1, Lib.hid (fun q e => by cases e), EQ1⟩
    case round =>
      clear S1 W1 EQ1
      obtain ⟨f, xs, s20, nv20, dv20, lv, rfl, hgk, hf, hxs, hn20, ha20, hxl, LC20, S20, W20, FR20, EQ20⟩ := hrel
      obtain ⟨f, rfl⟩ : ∃ f', f = f' + 1 := ⟨f - 1, by omega⟩
      have hp20 := S20.out.pos
      have hxl9 : xs.length + 1 ≤ 9000 := by omega
      have HXL := Lib.hid hxl9
      clear hxl9
      have EQ21 := Lib.hid (EQ20.out.trans (show syn.blockGo st (f + 1) xs l s20 = ((syn.may 7 ⟨#[125]⟩).bind fun b => if b = true then syn.node 1 ⟨#[]⟩ xs else st.bind fun x => syn.blockGo st f (xs ++ [x])) l s20 from rfl))
      rcases may_cases (l := l) (s := s20) 7 (by decide) ⟨#[125]⟩ with ⟨hpl31, hm31⟩ | hm31
      · have HC31 := may_calls S20.out 7 (by decide) ⟨#[125]⟩
        rw [hm31] at HC31
        have HC31 := Lib.hid HC31
        have hE := EQ21.out.trans (bind_ok hm31)
        try simp only [if_true, if_false, Bool.false_eq_true, Option.isSome] at hE
        have EQ31 := Lib.hid hE
        clear hE
        clear hm31
        obtain ⟨s31, hs31⟩ : ∃ q, q = ({ s20 with at_ := s20.at_ + 1 } : PS) := ⟨_, rfl⟩
        have ha31 : s31.at_ ≤ s20.at_ + 1 ∧ s20.at_ + 1 ≤ s31.at_ := by rw [hs31]; exact ⟨Nat.le_refl _, Nat.le_refl _⟩
        have hnl31 : s31.n.length ≤ s20.n.length ∧ s20.n.length ≤ s31.n.length := by rw [hs31]; exact ⟨Nat.le_refl _, Nat.le_refl _⟩
        rw [← hs31] at EQ31 HC31
        clear hs31
        go_wp2_with fail
        refine HC31.out.mono ?_
        rintro e w31 ⟨nv31, dv31, hw31, v31, rfl, rfl, hs31⟩
        have W31 := Lib.hid (W20.out.trans hw31)
        have S31 := Lib.hid hs31
        have LC20_31 := Lib.hid (S20.out.loc LC20.out hw31)
        clear hw31 hs31 HC31
        go_wp2_with fail
        have HXS := Lib.hid (show ∀ x ∈ xs, x < s31.n.length from fun x hx => by have := hxs x hx; omega)
        have S32 := Lib.hid (S31.out.less (fun q e => Or.inl e))
        refine (node_calls S32.out 1 ⟨#[]⟩ u3 xs LC20_31.out.kids HXS.out (by omega) (by have := HXL.out; first | omega | (simp at this ⊢; omega) | (simp))).mono ?_
        rintro e w33 ⟨nv33, dv33, hw33, v33, rfl, rfl, hs33⟩
        have W33 := Lib.hid (W31.out.trans hw33)
        have S33 := Lib.hid hs33
        have LC20_33 := Lib.hid (S32.out.loc LC20_31.out hw33)
        clear hw33 hs33
        go_wp2_with fail
        go_ret
        exact post_ok (EQ31.out.trans rfl) W33.out rfl S33.out
      · have HC31 := may_calls S20.out 7 (by decide) ⟨#[125]⟩
        rw [hm31] at HC31
        have HC31 := Lib.hid HC31
        have hE := EQ21.out.trans (bind_ok hm31)
        try simp only [if_true, if_false, Bool.false_eq_true, Option.isSome] at hE
        have EQ31 := Lib.hid hE
        clear hE
        clear hm31
        go_wp2_with fail
        refine HC31.out.mono ?_
        rintro e w31 ⟨nv31, dv31, hw31, v31, rfl, rfl, hs31⟩
        have W31 := Lib.hid (W20.out.trans hw31)
        have S31 := Lib.hid hs31
        have LC20_31 := Lib.hid (S20.out.loc LC20.out hw31)
        clear hw31 hs31 HC31
        go_wp2_with fail
        refine (HS.out (fun q => F q ∨ u3.ownBlock = some q) w31 nv31 dv31 s20 S31.out hn20 (by omega)).mono ?_
        rintro e w34 ⟨nv34, dv34, hw34, hr34⟩
        have W34 := Lib.hid (W31.out.trans hw34)
        have HW34 := Lib.hid hw34
        clear hw34
        cases hp34 : st l s20 with
        | bad q =>
          rw [hp34] at hr34
          obtain ⟨rfl, s', hq, hs⟩ := hr34
          exact ⟨rfl, post_bad (EQ31.out.trans (bind_bad hp34)) W34.out hq (hs.less (fun q e => Or.inl e))⟩
        | ok x34 s34 =>
          rw [hp34] at hr34
          obtain ⟨v34, rfl, rfl, hs⟩ := hr34
          have S34 := Lib.hid hs
          have hc34 := ho.get hp34
          try simp only at hc34
          have hE := EQ31.out.trans (bind_ok hp34)
          try simp only [if_true, if_false, Bool.false_eq_true, Option.isSome] at hE
          have EQ34 := Lib.hid hE
          clear hE
          have LC20_34 := Lib.hid (S31.out.loc LC20_31.out HW34.out)
          clear hs hp34
          go_upto_region 3 with (at_builtin; refine wpList_append_any rfl (.tmp 9) (.tmp 12) 31 rfl lo 3 i1 (.int .i64 0) 1 8 Try.underlying31 HJ.out.1 HJ.out.2.1 HJ.out.2.2.1 HJ.out.2.2.2 rfl (by decide) u3 (xs).length _ rfl (LC20_34.out.1.alloc _) ⟨w34.heap.size, 0, none⟩ 1 1 (by decide) [natV x34] rfl rfl (new_cells w34 _ _) (by simp [Value.oneCell']) (by have := HXL.out; unfold maxLen; first | omega | (simp at this ⊢; omega)) (by have := HXL.out; first | omega | (simp at this ⊢; omega)) (by have := S34.out.hlo; simp; omega) ?_; intro vv35 w35 hown35 hgr35 hwh35; obtain ⟨gq35, cp35, rfl⟩ := Joins.ownsRow_form hown35 (by omega))
          obtain ⟨hl35, hs35, hw35, hf35⟩ := push_ S34.out LC20_34.out FR20.out W34.out hown35 hgr35 hwh35
          have LC35 := Lib.hid hl35
          have S35 := Lib.hid hs35
          have W35 := Lib.hid hw35
          have FR35 := Lib.hid hf35
          clear hl35 hs35 hw35 hf35 hown35 hgr35 hwh35
          have hps := S35.out.pos
          go_roundg (l.length - s34.at_)
          case measure => omega
          case rel => exact ⟨f, xs ++ [x34], s34, nv34, dv34, _, rfl, Nat.le_refl _, by omega, (fun y hy => by rcases List.mem_append.1 hy with h | h; (have := hxs y h; omega); (simp at h; omega)), by omega, by omega, by simp; omega, LC35, S35, W35, FR35, EQ34⟩

set_option maxRecDepth 20000 in
set_option maxHeartbeats 4000000 in
theorem made_calls {k K : Nat} {st : syn.Pr Nat} (hst : ∀ F, Part F lo w0 a l c pb 13 k st) (ho : syn.One st) (hK : l.length < K) (kd : Int) (h : St F lo w0 a l c pb w nv dv s) (hsm : s.n.length ≤ 2 * s.at_) (hfu : l.length - s.at_ < k) :
    Calls Try.prog 18 #[ptr pb, .int .i64 kd] w fun e w' => Post F lo w0 a l c pb eN (syn.made K st kd l s) nv dv w e w' := by
  have HB := Lib.hid (fun F => block_part (F := F) hst ho hK)
  clear hst
  have H := Lib.hid h
  have W0 := Lib.hid (Wr.refl pb nv dv w)
  have EQ0 := Lib.hid (show syn.made K st kd l s = (syn.name.bind fun t => (syn.may 7 ⟨#[40]⟩).bind fun b => (if b = true then syn.row K (syn.param K) ⟨#[41]⟩ else syn.Pr.pure []).bind fun l => (syn.block K st).bind fun x => syn.node kd t (l ++ [x])) l s from rfl)
  have HV := Lib.hid (value_all (F := F) (lo := lo) (w0 := w0) (a := a) (l := l) (c := c) (pb := pb) hK)
  obtain ⟨i1, hi1⟩ := int_info
  have HJ := Lib.hid hi1
  have hfew := h.few
  clear h hi1
  go_enter Try.func18, Try.ntmps18
  go_wp2_with fail
  refine (name_calls H.out).mono ?_
  rintro e w1 ⟨nv1, dv1, hw1, hr1⟩
  have W1 := Lib.hid (W0.out.trans hw1)
  have HW1 := Lib.hid hw1
  clear hw1
  cases hp1 : syn.name l s with
  | bad q =>
    rw [hp1] at hr1
    obtain ⟨rfl, s', hq, hs⟩ := hr1
    exact ⟨rfl, post_bad (EQ0.out.trans (bind_bad hp1)) W1.out hq hs⟩
  | ok x1 s1 =>
    rw [hp1] at hr1
    obtain ⟨v1, rfl, rfl, hs⟩ := hr1
    have S1 := Lib.hid hs
    have hc1 := syn.Costs.name l s x1 s1 hp1
    try simp only at hc1
    have hE := EQ0.out.trans (bind_ok hp1)
    try simp only [if_true, if_false, Bool.false_eq_true, Option.isSome] at hE
    have EQ1 := Lib.hid hE
    clear hE
    clear hs hp1
    rcases may_cases (l := l) (s := s1) 7 (by decide) ⟨#[40]⟩ with ⟨hpl2, hm2⟩ | hm2
    · have HC2 := may_calls S1.out 7 (by decide) ⟨#[40]⟩
      rw [hm2] at HC2
      have HC2 := Lib.hid HC2
      have hE := EQ1.out.trans (bind_ok hm2)
      try simp only [if_true, if_false, Bool.false_eq_true, Option.isSome] at hE
      have EQ2 := Lib.hid hE
      clear hE
      clear hm2
      obtain ⟨s2, hs2⟩ : ∃ q, q = ({ s1 with at_ := s1.at_ + 1 } : PS) := ⟨_, rfl⟩
      have ha2 : s2.at_ ≤ s1.at_ + 1 ∧ s1.at_ + 1 ≤ s2.at_ := by rw [hs2]; exact ⟨Nat.le_refl _, Nat.le_refl _⟩
      have hnl2 : s2.n.length ≤ s1.n.length ∧ s1.n.length ≤ s2.n.length := by rw [hs2]; exact ⟨Nat.le_refl _, Nat.le_refl _⟩
      rw [← hs2] at EQ2 HC2
      clear hs2
      go_wp2_with fail
      refine HC2.out.mono ?_
      rintro e w2 ⟨nv2, dv2, hw2, v2, rfl, rfl, hs2⟩
      have W2 := Lib.hid (W1.out.trans hw2)
      have S2 := Lib.hid hs2
      clear hw2 hs2 HC2
      go_wp2_with fail
      refine (row_param (fun F => param_all (F := F) hK) (syn.One.param K) hK ⟨#[41]⟩ S2.out (by omega) (by omega)).mono ?_
      rintro e w3 ⟨nv3, dv3, hw3, hr3⟩
      have W3 := Lib.hid (W2.out.trans hw3)
      have hws3 := W2.out.only.size
      clear hw3
      cases hp3 : syn.row K (syn.param K) ⟨#[41]⟩ l s2 with
      | bad q =>
        rw [hp3] at hr3
        obtain ⟨rfl, s', hq, hs⟩ := hr3
        exact ⟨rfl, post_bad (EQ2.out.trans (bind_bad (p := syn.row K (syn.param K) ⟨#[41]⟩) hp3)) W3.out hq hs⟩
      | ok xs3 s3 =>
        rw [hp3] at hr3
        obtain ⟨v3, rfl, hl3, hs3, hf3⟩ := hr3
        have hc3 := (syn.Many.row (syn.One.param K) ⟨#[41]⟩ K).get hp3
        have LC3 := Lib.hid hl3
        have S3 := Lib.hid hs3
        have FR3 := Lib.hid (show ∀ q, v3.ownBlock = some q → w.heap.size ≤ q from fun q e => by have := hf3 q e; omega)
        have hE := EQ2.out.trans (bind_ok hp3)
        try simp only [if_true, if_false, Bool.false_eq_true, Option.isSome] at hE
        have EQ3 := Lib.hid hE
        have hxs := hc3.1
        have hlen := (syn.Many.row (syn.One.param K) ⟨#[41]⟩ K).len hp3
        have hpp := S3.out.pos
        have HXL := Lib.hid (show xs3.length + 1 ≤ 9000 by omega)
        clear hE hp3 hl3 hs3 hf3 hlen
        go_wp2_with fail
        refine (HB.out (fun q => F q ∨ (v3).ownBlock = some q) w3 nv3 dv3 _ S3.out (by omega) (by omega)).mono ?_
        rintro e w4 ⟨nv4, dv4, hw4, hr4⟩
        have W4 := Lib.hid (W3.out.trans hw4)
        have HW4 := Lib.hid hw4
        clear hw4
        cases hp4 : (syn.block K st) l s3 with
        | bad q =>
          rw [hp4] at hr4
          obtain ⟨rfl, s', hq, hs⟩ := hr4
          exact ⟨rfl, post_bad (EQ3.out.trans (bind_bad hp4)) W4.out hq (hs.less (fun q e => Or.inl e))⟩
        | ok x4 s4 =>
          rw [hp4] at hr4
          obtain ⟨v4, rfl, rfl, hs⟩ := hr4
          have S4 := Lib.hid hs
          have hc4 := (ho.block K).get hp4
          try simp only at hc4
          have hE := EQ3.out.trans (bind_ok hp4)
          try simp only [if_true, if_false, Bool.false_eq_true, Option.isSome] at hE
          have EQ4 := Lib.hid hE
          clear hE
          have LC3_4 := Lib.hid (S3.out.loc LC3.out HW4.out)
          clear hs hp4
          go_upto_region 6 with (at_builtin; refine wpList_append_any rfl (.tmp 15) (.tmp 18) 31 rfl lo 3 i1 (.int .i64 0) 1 8 Try.underlying31 HJ.out.1 HJ.out.2.1 HJ.out.2.2.1 HJ.out.2.2.2 rfl (by decide) v3 (xs3).length _ rfl (LC3_4.out.1.alloc _) ⟨w4.heap.size, 0, none⟩ 1 1 (by decide) [natV x4] rfl rfl (new_cells w4 _ _) (by simp [Value.oneCell']) (by have := HXL.out; unfold maxLen; first | omega | (simp at this ⊢; omega)) (by have := HXL.out; first | omega | (simp at this ⊢; omega)) (by have := S4.out.hlo; simp; omega) ?_; intro vv5 w5 hown5 hgr5 hwh5; obtain ⟨gq5, cp5, rfl⟩ := Joins.ownsRow_form hown5 (by omega))
          obtain ⟨hl5, hs5, hw5, hf5⟩ := push_ S4.out LC3_4.out FR3.out W4.out hown5 hgr5 hwh5
          have LC5 := Lib.hid hl5
          have S5 := Lib.hid hs5
          have W5 := Lib.hid hw5
          have FR5 := Lib.hid hf5
          clear hl5 hs5 hw5 hf5 hown5 hgr5 hwh5
          have HXS := Lib.hid (show ∀ y ∈ xs3 ++ [x4], y < s4.n.length from fun y hy => by rcases List.mem_append.1 hy with h | h; (have := hxs y h; omega); (simp at h; omega))
          go_wp2_with fail
          have S6 := Lib.hid (S5.out.less (fun q e => Or.inl e))
          refine (node_calls S6.out kd x1 (.slice (some ⟨gq5, 0, none⟩) ((xs3).length + 1) cp5) (xs3 ++ [x4]) LC5.out.kids HXS.out (by omega) (by have := HXL.out; first | omega | (simp at this ⊢; omega) | (simp))).mono ?_
          rintro e w7 ⟨nv7, dv7, hw7, v7, rfl, rfl, hs7⟩
          have W7 := Lib.hid (W5.out.trans hw7)
          have S7 := Lib.hid hs7
          have LC5_7 := Lib.hid (S6.out.loc LC5.out hw7)
          clear hw7 hs7
          go_wp2_with fail
          go_ret
          exact post_ok (EQ4.out.trans rfl) W7.out rfl S7.out
    · have HC2 := may_calls S1.out 7 (by decide) ⟨#[40]⟩
      rw [hm2] at HC2
      have HC2 := Lib.hid HC2
      have hE := EQ1.out.trans (bind_ok hm2)
      try simp only [if_true, if_false, Bool.false_eq_true, Option.isSome] at hE
      have EQ2 := Lib.hid hE
      clear hE
      clear hm2
      go_wp2_with fail
      refine HC2.out.mono ?_
      rintro e w2 ⟨nv2, dv2, hw2, v2, rfl, rfl, hs2⟩
      have W2 := Lib.hid (W1.out.trans hw2)
      have S2 := Lib.hid hs2
      clear hw2 hs2 HC2
      have LC8 := Lib.hid (Loc.nil F lo w2 dv2)
      have S8 := Lib.hid S2.out.none_
      have FR8 := Lib.hid (show ∀ q, (Value.slice none 0 0).ownBlock = some q → w.heap.size ≤ q from fun q e => by cases e)
      have hxs : ∀ x ∈ ([] : List Nat), x < s1.n.length := fun x hx => by cases hx
      have EQ8 := Lib.hid (show syn.made K st kd l s = ((syn.block K st).bind fun x => syn.node kd x1 ([] ++ [x])) l s1 from EQ2.out)
      have HXL := Lib.hid (show ([] : List Nat).length + 1 ≤ 9000 by decide)
      go_wp2_with fail
      refine (HB.out (fun q => F q ∨ ((Value.slice none 0 0)).ownBlock = some q) w2 nv2 dv2 _ S8.out (by omega) (by omega)).mono ?_
      rintro e w9 ⟨nv9, dv9, hw9, hr9⟩
      have W9 := Lib.hid (W2.out.trans hw9)
      have HW9 := Lib.hid hw9
      clear hw9
      cases hp9 : (syn.block K st) l s1 with
      | bad q =>
        rw [hp9] at hr9
        obtain ⟨rfl, s', hq, hs⟩ := hr9
        exact ⟨rfl, post_bad (EQ8.out.trans (bind_bad hp9)) W9.out hq (hs.less (fun q e => Or.inl e))⟩
      | ok x9 s9 =>
        rw [hp9] at hr9
        obtain ⟨v9, rfl, rfl, hs⟩ := hr9
        have S9 := Lib.hid hs
        have hc9 := (ho.block K).get hp9
        try simp only at hc9
        have hE := EQ8.out.trans (bind_ok hp9)
        try simp only [if_true, if_false, Bool.false_eq_true, Option.isSome] at hE
        have EQ9 := Lib.hid hE
        clear hE
        have LC8_9 := Lib.hid (S8.out.loc LC8.out HW9.out)
        clear hs hp9
        go_upto_region 6 with (at_builtin; refine wpList_append_any rfl (.tmp 15) (.tmp 18) 31 rfl lo 3 i1 (.int .i64 0) 1 8 Try.underlying31 HJ.out.1 HJ.out.2.1 HJ.out.2.2.1 HJ.out.2.2.2 rfl (by decide) (Value.slice none 0 0) (([] : List Nat)).length _ rfl (LC8_9.out.1.alloc _) ⟨w9.heap.size, 0, none⟩ 1 1 (by decide) [natV x9] rfl rfl (new_cells w9 _ _) (by simp [Value.oneCell']) (by have := HXL.out; unfold maxLen; first | omega | (simp at this ⊢; omega)) (by have := HXL.out; first | omega | (simp at this ⊢; omega)) (by have := S9.out.hlo; simp; omega) ?_; intro vv10 w10 hown10 hgr10 hwh10; obtain ⟨gq10, cp10, rfl⟩ := Joins.ownsRow_form hown10 (by omega))
        obtain ⟨hl10, hs10, hw10, hf10⟩ := push_ S9.out LC8_9.out FR8.out W9.out hown10 hgr10 hwh10
        have LC10 := Lib.hid hl10
        have S10 := Lib.hid hs10
        have W10 := Lib.hid hw10
        have FR10 := Lib.hid hf10
        clear hl10 hs10 hw10 hf10 hown10 hgr10 hwh10
        have HXS := Lib.hid (show ∀ y ∈ ([] : List Nat) ++ [x9], y < s9.n.length from fun y hy => by rcases List.mem_append.1 hy with h | h; (have := hxs y h; omega); (simp at h; omega))
        go_wp2_with fail
        have S11 := Lib.hid (S10.out.less (fun q e => Or.inl e))
        refine (node_calls S11.out kd x1 (.slice (some ⟨gq10, 0, none⟩) ((([] : List Nat)).length + 1) cp10) (([] : List Nat) ++ [x9]) LC10.out.kids HXS.out (by omega) (by have := HXL.out; first | omega | (simp at this ⊢; omega) | (simp))).mono ?_
        rintro e w12 ⟨nv12, dv12, hw12, v12, rfl, rfl, hs12⟩
        have W12 := Lib.hid (W10.out.trans hw12)
        have S12 := Lib.hid hs12
        have LC10_12 := Lib.hid (S11.out.loc LC10.out hw12)
        clear hw12 hs12
        go_wp2_with fail
        go_ret
        exact post_ok (EQ9.out.trans rfl) W12.out rfl S12.out
end
end Go.Proofs.Ytoggcdldoinbnaa
