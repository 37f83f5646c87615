/- The parser's statements. -/
import Derived.Test.YtoggcdldoinbnaaSynW
namespace Go.Proofs.Ytoggcdldoinbnaa
open Go.RowKit
open syn (Tok Nd PS)
set_option linter.unusedVariables false
set_option linter.unusedSimpArgs false

section
variable {F : Nat → Prop} {lo : Nat} {w0 : World} {a : Option Addr} {l : List Tok} {c pb : Nat} {w w' : World} {nv dv nv' dv' : Value} {s : PS}
theorem syn.statement_succ (K k : Nat) (l : List Tok) (s : PS) : syn.statement K (k + 1) l s = ((syn.may 1 ⟨#[99, 108, 97, 115, 115]⟩).bind fun b => if b = true then syn.made K (syn.statement K k) 2 else
    (syn.may 1 ⟨#[100, 101, 102, 105, 110, 101]⟩).bind fun b => if b = true then syn.made K (syn.statement K k) 3 else
    (syn.may 1 ⟨#[105, 110, 99, 108, 117, 100, 101]⟩).bind fun b => if b = true then syn.name.bind fun s => syn.node 5 s [] else
    (syn.may 1 ⟨#[105, 102]⟩).bind fun b => if b = true then (syn.value K).bind fun x => (syn.block K (syn.statement K k)).bind fun y =>
      (syn.may 1 ⟨#[101, 108, 115, 101]⟩).bind fun e => if e = true then (syn.block K (syn.statement K k)).bind fun z => syn.node 7 ⟨#[]⟩ [x, y, z] else syn.node 7 ⟨#[]⟩ [x, y] else
    syn.simple K) l s := rfl
theorem any_is {kind : Int} {s : PS} (h : (syn.next l s).1 = kind) (hp : s.at_ < l.length) : syn.any kind l s = .ok (syn.next l s).2 { s with at_ := s.at_ + 1 } := by
  unfold syn.any syn.Pr.bind syn.acc
  rw [if_pos (decide_eq_true h)]
  rfl
theorem bind_pure_ (p : syn.Pr Nat) (l : List Tok) (s : PS) : p l s = (p.bind syn.Pr.pure) l s := by
  unfold syn.Pr.bind
  cases p l s <;> rfl

set_option maxRecDepth 20000 in
set_option maxHeartbeats 4000000 in
theorem statement_part {K : Nat} (hK : l.length < K) (k : Nat) : ∀ F, Part F lo w0 a l c pb 13 k (syn.statement K k) := by
  induction k with
  | zero =>
    intro F w nv dv s h hsm hfu
    omega
  | succ k ih =>
  intro F w nv dv s h hsm hfu
  have H := Lib.hid h
  have W0 := Lib.hid (Wr.refl pb nv dv w)
  have EQ0 := Lib.hid (syn.statement_succ K k l s)
  have HV := Lib.hid (value_all (F := F) (lo := lo) (w0 := w0) (a := a) (l := l) (c := c) (pb := pb) hK)
  obtain ⟨i1, hi1⟩ := int_info
  have HJ := Lib.hid hi1
  have hfew := h.few
  clear h hi1
  go_enter Try.func13, Try.ntmps13
  rcases may_cases (l := l) (s := s) 1 (by decide) ⟨#[99, 108, 97, 115, 115]⟩ with ⟨hpl1, hm1⟩ | hm1
  · have HC1 := may_calls H.out 1 (by decide) ⟨#[99, 108, 97, 115, 115]⟩
    rw [hm1] at HC1
    have HC1 := Lib.hid HC1
    have hE := EQ0.out.trans (bind_ok hm1)
    try simp only [if_true, if_false, Bool.false_eq_true, Option.isSome] at hE
    have EQ1 := Lib.hid hE
    clear hE
    clear hm1
    obtain ⟨s1, hs1⟩ : ∃ q, q = ({ s with at_ := s.at_ + 1 } : PS) := ⟨_, rfl⟩
    have ha1 : s1.at_ ≤ s.at_ + 1 ∧ s.at_ + 1 ≤ s1.at_ := by rw [hs1]; exact ⟨Nat.le_refl _, Nat.le_refl _⟩
    have hnl1 : s1.n.length ≤ s.n.length ∧ s.n.length ≤ s1.n.length := by rw [hs1]; exact ⟨Nat.le_refl _, Nat.le_refl _⟩
    rw [← hs1] at EQ1 HC1
    clear hs1
    go_wp2_with fail
    refine HC1.out.mono ?_
    rintro e w1 ⟨nv1, dv1, hw1, v1, rfl, rfl, hs1⟩
    have W1 := Lib.hid (W0.out.trans hw1)
    have S1 := Lib.hid hs1
    clear hw1 hs1 HC1
    have EQ2 := Lib.hid (EQ1.out.trans (bind_pure_ (syn.made K (syn.statement K k) 2) l s1))
    go_wp2_with fail
    refine (made_calls (fun F => ih F) (syn.One.statement K k) hK 2 S1.out (by omega) (by omega)).mono ?_
    rintro e w3 ⟨nv3, dv3, hw3, hr3⟩
    have W3 := Lib.hid (W1.out.trans hw3)
    have HW3 := Lib.hid hw3
    clear hw3
    cases hp3 : (syn.made K (syn.statement K k) 2) l s1 with
    | bad q =>
      rw [hp3] at hr3
      obtain ⟨rfl, s', hq, hs⟩ := hr3
      exact ⟨rfl, post_bad (EQ2.out.trans (bind_bad hp3)) W3.out hq hs⟩
    | ok x3 s3 =>
      rw [hp3] at hr3
      obtain ⟨v3, rfl, rfl, hs⟩ := hr3
      have S3 := Lib.hid hs
      have hc3 := ((syn.One.statement K k).made K 2).get hp3
      try simp only at hc3
      have hE := EQ2.out.trans (bind_ok hp3)
      try simp only [if_true, if_false, Bool.false_eq_true, Option.isSome] at hE
      have EQ3 := Lib.hid hE
      clear hE
      clear hs hp3
      go_wp2_with fail
      go_ret
      exact post_ok (EQ3.out.trans rfl) W3.out rfl S3.out
  · have HC1 := may_calls H.out 1 (by decide) ⟨#[99, 108, 97, 115, 115]⟩
    rw [hm1] at HC1
    have HC1 := Lib.hid HC1
    have hE := EQ0.out.trans (bind_ok hm1)
    try simp only [if_true, if_false, Bool.false_eq_true, Option.isSome] at hE
    have EQ1 := Lib.hid hE
    clear hE
    clear hm1
    go_wp2_with fail
    refine HC1.out.mono ?_
    rintro e w1 ⟨nv1, dv1, hw1, v1, rfl, rfl, hs1⟩
    have W1 := Lib.hid (W0.out.trans hw1)
    have S1 := Lib.hid hs1
    clear hw1 hs1 HC1
    rcases may_cases (l := l) (s := s) 1 (by decide) ⟨#[100, 101, 102, 105, 110, 101]⟩ with ⟨hpl4, hm4⟩ | hm4
    · have HC4 := may_calls S1.out 1 (by decide) ⟨#[100, 101, 102, 105, 110, 101]⟩
      rw [hm4] at HC4
      have HC4 := Lib.hid HC4
      have hE := EQ1.out.trans (bind_ok hm4)
      try simp only [if_true, if_false, Bool.false_eq_true, Option.isSome] at hE
      have EQ4 := Lib.hid hE
      clear hE
      clear hm4
      obtain ⟨s4, hs4⟩ : ∃ q, q = ({ s with at_ := s.at_ + 1 } : PS) := ⟨_, rfl⟩
      have ha4 : s4.at_ ≤ s.at_ + 1 ∧ s.at_ + 1 ≤ s4.at_ := by rw [hs4]; exact ⟨Nat.le_refl _, Nat.le_refl _⟩
      have hnl4 : s4.n.length ≤ s.n.length ∧ s.n.length ≤ s4.n.length := by rw [hs4]; exact ⟨Nat.le_refl _, Nat.le_refl _⟩
      rw [← hs4] at EQ4 HC4
      clear hs4
      go_wp2_with fail
      refine HC4.out.mono ?_
      rintro e w4 ⟨nv4, dv4, hw4, v4, rfl, rfl, hs4⟩
      have W4 := Lib.hid (W1.out.trans hw4)
      have S4 := Lib.hid hs4
      clear hw4 hs4 HC4
      have EQ5 := Lib.hid (EQ4.out.trans (bind_pure_ (syn.made K (syn.statement K k) 3) l s4))
      go_wp2_with fail
      refine (made_calls (fun F => ih F) (syn.One.statement K k) hK 3 S4.out (by omega) (by omega)).mono ?_
      rintro e w6 ⟨nv6, dv6, hw6, hr6⟩
      have W6 := Lib.hid (W4.out.trans hw6)
      have HW6 := Lib.hid hw6
      clear hw6
      cases hp6 : (syn.made K (syn.statement K k) 3) l s4 with
      | bad q =>
        rw [hp6] at hr6
        obtain ⟨rfl, s', hq, hs⟩ := hr6
        exact ⟨rfl, post_bad (EQ5.out.trans (bind_bad hp6)) W6.out hq hs⟩
      | ok x6 s6 =>
        rw [hp6] at hr6
        obtain ⟨v6, rfl, rfl, hs⟩ := hr6
        have S6 := Lib.hid hs
        have hc6 := ((syn.One.statement K k).made K 3).get hp6
        try simp only at hc6
        have hE := EQ5.out.trans (bind_ok hp6)
        try simp only [if_true, if_false, Bool.false_eq_true, Option.isSome] at hE
        have EQ6 := Lib.hid hE
        clear hE
        clear hs hp6
        go_wp2_with fail
        go_ret
        exact post_ok (EQ6.out.trans rfl) W6.out rfl S6.out
    · have HC4 := may_calls S1.out 1 (by decide) ⟨#[100, 101, 102, 105, 110, 101]⟩
      rw [hm4] at HC4
      have HC4 := Lib.hid HC4
      have hE := EQ1.out.trans (bind_ok hm4)
      try simp only [if_true, if_false, Bool.false_eq_true, Option.isSome] at hE
      have EQ4 := Lib.hid hE
      clear hE
      clear hm4
      go_wp2_with fail
      refine HC4.out.mono ?_
      rintro e w4 ⟨nv4, dv4, hw4, v4, rfl, rfl, hs4⟩
      have W4 := Lib.hid (W1.out.trans hw4)
      have S4 := Lib.hid hs4
      clear hw4 hs4 HC4
      rcases may_cases (l := l) (s := s) 1 (by decide) ⟨#[105, 110, 99, 108, 117, 100, 101]⟩ with ⟨hpl7, hm7⟩ | hm7
      · have HC7 := may_calls S4.out 1 (by decide) ⟨#[105, 110, 99, 108, 117, 100, 101]⟩
        rw [hm7] at HC7
        have HC7 := Lib.hid HC7
        have hE := EQ4.out.trans (bind_ok hm7)
        try simp only [if_true, if_false, Bool.false_eq_true, Option.isSome] at hE
        have EQ7 := Lib.hid hE
        clear hE
        clear hm7
        obtain ⟨s7, hs7⟩ : ∃ q, q = ({ s with at_ := s.at_ + 1 } : PS) := ⟨_, rfl⟩
        have ha7 : s7.at_ ≤ s.at_ + 1 ∧ s.at_ + 1 ≤ s7.at_ := by rw [hs7]; exact ⟨Nat.le_refl _, Nat.le_refl _⟩
        have hnl7 : s7.n.length ≤ s.n.length ∧ s.n.length ≤ s7.n.length := by rw [hs7]; exact ⟨Nat.le_refl _, Nat.le_refl _⟩
        rw [← hs7] at EQ7 HC7
        clear hs7
        go_wp2_with fail
        refine HC7.out.mono ?_
        rintro e w7 ⟨nv7, dv7, hw7, v7, rfl, rfl, hs7⟩
        have W7 := Lib.hid (W4.out.trans hw7)
        have S7 := Lib.hid hs7
        clear hw7 hs7 HC7
        go_wp2_with fail
        refine (name_calls S7.out).mono ?_
        rintro e w8 ⟨nv8, dv8, hw8, hr8⟩
        have W8 := Lib.hid (W7.out.trans hw8)
        have HW8 := Lib.hid hw8
        clear hw8
        cases hp8 : syn.name l s7 with
        | bad q =>
          rw [hp8] at hr8
          obtain ⟨rfl, s', hq, hs⟩ := hr8
          exact ⟨rfl, post_bad (EQ7.out.trans (bind_bad hp8)) W8.out hq hs⟩
        | ok x8 s8 =>
          rw [hp8] at hr8
          obtain ⟨v8, rfl, rfl, hs⟩ := hr8
          have S8 := Lib.hid hs
          have hc8 := syn.Costs.name l s7 x8 s8 hp8
          try simp only at hc8
          have hE := EQ7.out.trans (bind_ok hp8)
          try simp only [if_true, if_false, Bool.false_eq_true, Option.isSome] at hE
          have EQ8 := Lib.hid hE
          clear hE
          clear hs hp8
          go_wp2_with fail
          refine (node_calls S8.out 5 x8 (.slice none 0 0) [] (.inl ⟨rfl, none, 0, rfl⟩) (fun k hk => by cases hk) (by omega) (by simp)).mono ?_
          rintro e w9 ⟨nv9, dv9, hw9, v9, rfl, rfl, hs9⟩
          have W9 := Lib.hid (W8.out.trans hw9)
          have S9 := Lib.hid hs9
          clear hw9 hs9
          go_wp2_with fail
          go_ret
          exact post_ok (EQ8.out.trans rfl) W9.out rfl S9.out
      · have HC7 := may_calls S4.out 1 (by decide) ⟨#[105, 110, 99, 108, 117, 100, 101]⟩
        rw [hm7] at HC7
        have HC7 := Lib.hid HC7
        have hE := EQ4.out.trans (bind_ok hm7)
        try simp only [if_true, if_false, Bool.false_eq_true, Option.isSome] at hE
        have EQ7 := Lib.hid hE
        clear hE
        clear hm7
        go_wp2_with fail
        refine HC7.out.mono ?_
        rintro e w7 ⟨nv7, dv7, hw7, v7, rfl, rfl, hs7⟩
        have W7 := Lib.hid (W4.out.trans hw7)
        have S7 := Lib.hid hs7
        clear hw7 hs7 HC7
        rcases may_cases (l := l) (s := s) 1 (by decide) ⟨#[105, 102]⟩ with ⟨hpl10, hm10⟩ | hm10
        · have HC10 := may_calls S7.out 1 (by decide) ⟨#[105, 102]⟩
          rw [hm10] at HC10
          have HC10 := Lib.hid HC10
          have hE := EQ7.out.trans (bind_ok hm10)
          try simp only [if_true, if_false, Bool.false_eq_true, Option.isSome] at hE
          have EQ10 := Lib.hid hE
          clear hE
          clear hm10
          obtain ⟨s10, hs10⟩ : ∃ q, q = ({ s with at_ := s.at_ + 1 } : PS) := ⟨_, rfl⟩
          have ha10 : s10.at_ ≤ s.at_ + 1 ∧ s.at_ + 1 ≤ s10.at_ := by rw [hs10]; exact ⟨Nat.le_refl _, Nat.le_refl _⟩
          have hnl10 : s10.n.length ≤ s.n.length ∧ s.n.length ≤ s10.n.length := by rw [hs10]; exact ⟨Nat.le_refl _, Nat.le_refl _⟩
          rw [← hs10] at EQ10 HC10
          clear hs10
          go_wp2_with fail
          refine HC10.out.mono ?_
          rintro e w10 ⟨nv10, dv10, hw10, v10, rfl, rfl, hs10⟩
          have W10 := Lib.hid (W7.out.trans hw10)
          have S10 := Lib.hid hs10
          clear hw10 hs10 HC10
          go_wp2_with fail
          refine (HV.out w10 nv10 dv10 _ S10.out (by omega) (by omega)).mono ?_
          rintro e w11 ⟨nv11, dv11, hw11, hr11⟩
          have W11 := Lib.hid (W10.out.trans hw11)
          have HW11 := Lib.hid hw11
          clear hw11
          cases hp11 : (syn.value K) l s10 with
          | bad q =>
            rw [hp11] at hr11
            obtain ⟨rfl, s', hq, hs⟩ := hr11
            exact ⟨rfl, post_bad (EQ10.out.trans (bind_bad hp11)) W11.out hq hs⟩
          | ok x11 s11 =>
            rw [hp11] at hr11
            obtain ⟨v11, rfl, rfl, hs⟩ := hr11
            have S11 := Lib.hid hs
            have hc11 := (syn.One.value K).get hp11
            try simp only at hc11
            have hE := EQ10.out.trans (bind_ok hp11)
            try simp only [if_true, if_false, Bool.false_eq_true, Option.isSome] at hE
            have EQ11 := Lib.hid hE
            clear hE
            clear hs hp11
            have hwz := W11.out.only.size
            obtain ⟨hl2, hs2, hf2⟩ := laid_ S11.out [x11] (by simp) (we := w) hwz
            have LC2 := Lib.hid hl2
            have S2 := Lib.hid hs2
            have FR2 := Lib.hid hf2
            have W2 := Lib.hid (W11.out.trans (Wr.same nv11 dv11 ((Only.refl (fun _ => False) w11).alloc (.cells ([x11].map natV).toArray 3))))
            clear hl2 hs2 hf2
            go_upto_region 9 with fail
            obtain ⟨wb, hwb⟩ : ∃ q, q = w11.alloc (Obj.cells #[natV x11] 3) := ⟨_, rfl⟩
            obtain ⟨lv, hlv⟩ : ∃ q, q = Value.slice (some ⟨w11.heap.size, 0, none⟩) 1 1 := ⟨_, rfl⟩
            rw [← hwb, ← hlv]
            have LC3 := Lib.hid (show Loc F lo wb dv11 lv [x11] from by rw [hwb, hlv]; exact LC2.out)
            have S3 := Lib.hid (show St (fun q => F q ∨ lv.ownBlock = some q) lo w0 a l c pb wb nv11 dv11 s11 from by rw [hwb, hlv]; exact S2.out)
            have FR3 := Lib.hid (show ∀ q, lv.ownBlock = some q → w.heap.size ≤ q from by rw [hlv]; exact FR2.out)
            have W3 := Lib.hid (show Wr pb nv dv w wb nv11 dv11 from by rw [hwb]; exact W2.out)
            clear hwb hlv LC2 S2 FR2 W2 hwz
            go_wp2_with fail
            refine (block_part (F := fun q => F q ∨ (lv).ownBlock = some q) (fun F => ih F) (syn.One.statement K k) hK wb nv11 dv11 _ S3.out (by omega) (by omega)).mono ?_
            rintro e w12 ⟨nv12, dv12, hw12, hr12⟩
            have W12 := Lib.hid (W3.out.trans hw12)
            have HW12 := Lib.hid hw12
            clear hw12
            cases hp12 : (syn.block K (syn.statement K k)) l s11 with
            | bad q =>
              rw [hp12] at hr12
              obtain ⟨rfl, s', hq, hs⟩ := hr12
              exact ⟨rfl, post_bad (EQ11.out.trans (bind_bad hp12)) W12.out hq (hs.less (fun q e => Or.inl e))⟩
            | ok x12 s12 =>
              rw [hp12] at hr12
              obtain ⟨v12, rfl, rfl, hs⟩ := hr12
              have S12 := Lib.hid hs
              have hc12 := ((syn.One.statement K k).block K).get hp12
              try simp only at hc12
              have hE := EQ11.out.trans (bind_ok hp12)
              try simp only [if_true, if_false, Bool.false_eq_true, Option.isSome] at hE
              have EQ12 := Lib.hid hE
              clear hE
              have LC3_12 := Lib.hid (S3.out.loc LC3.out HW12.out)
              clear hs hp12
              have HXL := Lib.hid (show ([x11] : List Nat).length + 1 ≤ 9000 by simp)
              go_upto_region 10 with (at_builtin; refine wpList_append_any rfl (.tmp 30) (.tmp 33) 31 rfl lo 3 i1 (.int .i64 0) 1 8 Try.underlying31 HJ.out.1 HJ.out.2.1 HJ.out.2.2.1 HJ.out.2.2.2 rfl (by decide) lv ([x11]).length _ rfl (LC3_12.out.1.alloc _) ⟨w12.heap.size, 0, none⟩ 1 1 (by decide) [natV x12] rfl rfl (new_cells w12 _ _) (by simp [Value.oneCell']) (by have := HXL.out; unfold maxLen; first | omega | (simp at this ⊢; omega)) (by have := HXL.out; first | omega | (simp at this ⊢; omega)) (by have := S12.out.hlo; simp; omega) ?_; intro vv13 w13 hown13 hgr13 hwh13; obtain ⟨gq13, cp13, rfl⟩ := Joins.ownsRow_form hown13 (by omega))
              obtain ⟨hl13, hs13, hw13, hf13⟩ := push_ S12.out LC3_12.out FR3.out W12.out hown13 hgr13 hwh13
              have LC13 := Lib.hid hl13
              have S13 := Lib.hid hs13
              have W13 := Lib.hid hw13
              have FR13 := Lib.hid hf13
              clear hl13 hs13 hw13 hf13 hown13 hgr13 hwh13
              rcases may_cases (l := l) (s := s12) 1 (by decide) ⟨#[101, 108, 115, 101]⟩ with ⟨hpl14, hm14⟩ | hm14
              · have HC14 := may_calls S13.out 1 (by decide) ⟨#[101, 108, 115, 101]⟩
                rw [hm14] at HC14
                have HC14 := Lib.hid HC14
                have hE := EQ12.out.trans (bind_ok hm14)
                try simp only [if_true, if_false, Bool.false_eq_true, Option.isSome] at hE
                have EQ14 := Lib.hid hE
                clear hE
                clear hm14
                obtain ⟨s14, hs14⟩ : ∃ q, q = ({ s12 with at_ := s12.at_ + 1 } : PS) := ⟨_, rfl⟩
                have ha14 : s14.at_ ≤ s12.at_ + 1 ∧ s12.at_ + 1 ≤ s14.at_ := by rw [hs14]; exact ⟨Nat.le_refl _, Nat.le_refl _⟩
                have hnl14 : s14.n.length ≤ s12.n.length ∧ s12.n.length ≤ s14.n.length := by rw [hs14]; exact ⟨Nat.le_refl _, Nat.le_refl _⟩
                rw [← hs14] at EQ14 HC14
                clear hs14
                go_wp2_with fail
                refine HC14.out.mono ?_
                rintro e w14 ⟨nv14, dv14, hw14, v14, rfl, rfl, hs14⟩
                have W14 := Lib.hid (W13.out.trans hw14)
                have S14 := Lib.hid hs14
                have LC13_14 := Lib.hid (S13.out.loc LC13.out hw14)
                clear hw14 hs14 HC14
                go_wp2_with fail
                refine (block_part (F := fun q => F q ∨ ((Value.slice (some ⟨gq13, 0, none⟩) (([x11]).length + 1) cp13)).ownBlock = some q) (fun F => ih F) (syn.One.statement K k) hK w14 nv14 dv14 _ S14.out (by omega) (by omega)).mono ?_
                rintro e w15 ⟨nv15, dv15, hw15, hr15⟩
                have W15 := Lib.hid (W14.out.trans hw15)
                have HW15 := Lib.hid hw15
                clear hw15
                cases hp15 : (syn.block K (syn.statement K k)) l s14 with
                | bad q =>
                  rw [hp15] at hr15
                  obtain ⟨rfl, s', hq, hs⟩ := hr15
                  exact ⟨rfl, post_bad (EQ14.out.trans (bind_bad hp15)) W15.out hq (hs.less (fun q e => Or.inl e))⟩
                | ok x15 s15 =>
                  rw [hp15] at hr15
                  obtain ⟨v15, rfl, rfl, hs⟩ := hr15
                  have S15 := Lib.hid hs
                  have hc15 := ((syn.One.statement K k).block K).get hp15
                  try simp only at hc15
                  have hE := EQ14.out.trans (bind_ok hp15)
                  try simp only [if_true, if_false, Bool.false_eq_true, Option.isSome] at hE
                  have EQ15 := Lib.hid hE
                  clear hE
                  have LC13_15 := Lib.hid (S14.out.loc LC13_14.out HW15.out)
                  clear hs hp15
                  have HXL := Lib.hid (show ([x11] ++ [x12] : List Nat).length + 1 ≤ 9000 by simp)
                  go_upto_region 12 with (at_builtin; refine wpList_append_any rfl (.tmp 37) (.tmp 40) 31 rfl lo 3 i1 (.int .i64 0) 1 8 Try.underlying31 HJ.out.1 HJ.out.2.1 HJ.out.2.2.1 HJ.out.2.2.2 rfl (by decide) (Value.slice (some ⟨gq13, 0, none⟩) (([x11]).length + 1) cp13) (([x11] ++ [x12])).length _ rfl (LC13_15.out.1.alloc _) ⟨w15.heap.size, 0, none⟩ 1 1 (by decide) [natV x15] rfl rfl (new_cells w15 _ _) (by simp [Value.oneCell']) (by have := HXL.out; unfold maxLen; first | omega | (simp at this ⊢; omega)) (by have := HXL.out; first | omega | (simp at this ⊢; omega)) (by have := S15.out.hlo; simp; omega) ?_; intro vv16 w16 hown16 hgr16 hwh16; obtain ⟨gq16, cp16, rfl⟩ := Joins.ownsRow_form hown16 (by omega))
                  obtain ⟨hl16, hs16, hw16, hf16⟩ := push_ S15.out LC13_15.out FR13.out W15.out hown16 hgr16 hwh16
                  have LC16 := Lib.hid hl16
                  have S16 := Lib.hid hs16
                  have W16 := Lib.hid hw16
                  have FR16 := Lib.hid hf16
                  clear hl16 hs16 hw16 hf16 hown16 hgr16 hwh16
                  go_wp2_with fail
                  have S17 := Lib.hid (S16.out.less (fun q e => Or.inl e))
                  refine (node_calls S17.out 7 ⟨#[]⟩ (Value.slice (some ⟨gq16, 0, none⟩) ((([x11] ++ [x12])).length + 1) cp16) ([x11] ++ [x12] ++ [x15]) LC16.out.kids (fun y hy => by simp at hy; first | omega | (rcases hy with h | h <;> omega) | (rcases hy with h | h | h <;> omega)) (by omega) (by simp)).mono ?_
                  rintro e w18 ⟨nv18, dv18, hw18, v18, rfl, rfl, hs18⟩
                  have W18 := Lib.hid (W16.out.trans hw18)
                  have S18 := Lib.hid hs18
                  have LC16_18 := Lib.hid (S17.out.loc LC16.out hw18)
                  clear hw18 hs18
                  go_wp2_with fail
                  go_ret
                  exact post_ok (EQ15.out.trans rfl) W18.out rfl S18.out
              · have HC14 := may_calls S13.out 1 (by decide) ⟨#[101, 108, 115, 101]⟩
                rw [hm14] at HC14
                have HC14 := Lib.hid HC14
                have hE := EQ12.out.trans (bind_ok hm14)
                try simp only [if_true, if_false, Bool.false_eq_true, Option.isSome] at hE
                have EQ14 := Lib.hid hE
                clear hE
                clear hm14
                go_wp2_with fail
                refine HC14.out.mono ?_
                rintro e w14 ⟨nv14, dv14, hw14, v14, rfl, rfl, hs14⟩
                have W14 := Lib.hid (W13.out.trans hw14)
                have S14 := Lib.hid hs14
                have LC13_14 := Lib.hid (S13.out.loc LC13.out hw14)
                clear hw14 hs14 HC14
                go_wp2_with fail
                have S19 := Lib.hid (S14.out.less (fun q e => Or.inl e))
                refine (node_calls S19.out 7 ⟨#[]⟩ (Value.slice (some ⟨gq13, 0, none⟩) (([x11]).length + 1) cp13) ([x11] ++ [x12]) LC13_14.out.kids (fun y hy => by simp at hy; first | omega | (rcases hy with h | h <;> omega) | (rcases hy with h | h | h <;> omega)) (by omega) (by simp)).mono ?_
                rintro e w20 ⟨nv20, dv20, hw20, v20, rfl, rfl, hs20⟩
                have W20 := Lib.hid (W14.out.trans hw20)
                have S20 := Lib.hid hs20
                have LC13_20 := Lib.hid (S19.out.loc LC13_14.out hw20)
                clear hw20 hs20
                go_wp2_with fail
                go_ret
                exact post_ok (EQ14.out.trans rfl) W20.out rfl S20.out
        · have HC10 := may_calls S7.out 1 (by decide) ⟨#[105, 102]⟩
          rw [hm10] at HC10
          have HC10 := Lib.hid HC10
          have hE := EQ7.out.trans (bind_ok hm10)
          try simp only [if_true, if_false, Bool.false_eq_true, Option.isSome] at hE
          have EQ10 := Lib.hid hE
          clear hE
          clear hm10
          go_wp2_with fail
          refine HC10.out.mono ?_
          rintro e w10 ⟨nv10, dv10, hw10, v10, rfl, rfl, hs10⟩
          have W10 := Lib.hid (W7.out.trans hw10)
          have S10 := Lib.hid hs10
          clear hw10 hs10 HC10
          have hfd := fld0_
          have HN := Lib.hid (next_calls S10.out)
          obtain ⟨kq, hkq⟩ : ∃ q, q = (syn.next l s).1 := ⟨_, rfl⟩
          rw [← hkq] at HN
          by_cases hk3 : kq = 3
          · have EQ21 := Lib.hid (show syn.statement K (k + 1) l s = ((syn.any 3).bind fun s => (syn.must ⟨#[61]⟩).bind fun _ => (syn.value K).bind fun x => syn.node 6 s [x]) l s from EQ10.out.trans (by
              show (if (syn.next l s).1 = 3 then _ else _ : syn.Pr Nat) l s = _
              rw [if_pos (hkq.symm.trans hk3)]))
            rw [hk3] at HN
            have HK3 := Lib.hid (hkq.symm.trans hk3)
            go_wp2_with fail
            refine HN.out.mono ?_
            rintro e w21 ⟨q21, rfl, o21⟩
            have S21 := Lib.hid (S10.out.grow o21)
            have W21 := Lib.hid (W10.out.trans (Wr.same (pb := pb) nv10 dv10 o21))
            clear o21
            clear hk3 hkq
            have hpl22 : s.at_ < l.length := by
              rcases Nat.lt_or_ge s.at_ l.length with h | h
              · exact h
              · exfalso
                rw [show (syn.next l s) = (0, ⟨#[]⟩) from by unfold syn.next; rw [List.getD_eq_getElem?_getD, List.getElem?_eq_none h]; rfl] at HK3
                exact absurd HK3.out (by decide)
            obtain ⟨t22, ht22⟩ : ∃ t, t = (syn.next l s).2 := ⟨_, rfl⟩
            obtain ⟨s22, hs22⟩ : ∃ q, q = ({ s with at_ := s.at_ + 1 } : PS) := ⟨_, rfl⟩
            have hany22 : syn.any 3 l s = .ok t22 s22 := by rw [ht22, hs22]; exact any_is HK3.out hpl22
            have hE := EQ21.out.trans (bind_ok hany22)
            try simp only [if_true, if_false, Bool.false_eq_true, Option.isSome] at hE
            have EQ22 := Lib.hid hE
            clear hE
            have ha22 : s22.at_ ≤ s.at_ + 1 ∧ s.at_ + 1 ≤ s22.at_ := by rw [hs22]; exact ⟨Nat.le_refl _, Nat.le_refl _⟩
            have hn22 : s22.n.length ≤ s.n.length ∧ s.n.length ≤ s22.n.length := by rw [hs22]; exact ⟨Nat.le_refl _, Nat.le_refl _⟩
            have HT := take_calls S21.out hpl22
            rw [← hs22, ← ht22] at HT
            have HT := Lib.hid HT
            clear hs22 ht22 hany22 HK3
            go_wp2_with fail
            refine HT.out.mono ?_
            rintro e w22 ⟨rfl, h22, hw22⟩
            have S22 := Lib.hid h22
            have W22 := Lib.hid (W21.out.trans hw22)
            clear h22 hw22 HT
            go_wp2_with fail
            refine (must_calls S22.out ⟨#[61]⟩).mono ?_
            rintro e w23 ⟨nv23, dv23, hw23, hr23⟩
            have W23 := Lib.hid (W22.out.trans hw23)
            have HW23 := Lib.hid hw23
            clear hw23
            cases hp23 : syn.must ⟨#[61]⟩ l s22 with
            | bad q =>
              rw [hp23] at hr23
              obtain ⟨rfl, s', hq, hs⟩ := hr23
              exact ⟨rfl, post_bad (EQ22.out.trans (bind_bad hp23)) W23.out hq hs⟩
            | ok x23 s23 =>
              rw [hp23] at hr23
              obtain ⟨v23, rfl, rfl, hs⟩ := hr23
              have S23 := Lib.hid hs
              have hc23 := syn.Costs.must ⟨#[61]⟩ l s22 x23 s23 hp23
              try simp only at hc23
              have hE := EQ22.out.trans (bind_ok hp23)
              try simp only [if_true, if_false, Bool.false_eq_true, Option.isSome] at hE
              have EQ23 := Lib.hid hE
              clear hE
              clear hs hp23
              go_wp2_with fail
              refine (HV.out w23 nv23 dv23 _ S23.out (by omega) (by omega)).mono ?_
              rintro e w24 ⟨nv24, dv24, hw24, hr24⟩
              have W24 := Lib.hid (W23.out.trans hw24)
              have HW24 := Lib.hid hw24
              clear hw24
              cases hp24 : (syn.value K) l s23 with
              | bad q =>
                rw [hp24] at hr24
                obtain ⟨rfl, s', hq, hs⟩ := hr24
                exact ⟨rfl, post_bad (EQ23.out.trans (bind_bad hp24)) W24.out hq hs⟩
              | ok x24 s24 =>
                rw [hp24] at hr24
                obtain ⟨v24, rfl, rfl, hs⟩ := hr24
                have S24 := Lib.hid hs
                have hc24 := (syn.One.value K).get hp24
                try simp only at hc24
                have hE := EQ23.out.trans (bind_ok hp24)
                try simp only [if_true, if_false, Bool.false_eq_true, Option.isSome] at hE
                have EQ24 := Lib.hid hE
                clear hE
                clear hs hp24
                go_wp2_with fail
                have o25 := (Only.refl (fun _ => False) w24).alloc (.cells #[natV x24] 3)
                have K25 := Lib.hid (show KidsOk F lo (w24.alloc (.cells #[natV x24] 3)) dv24 (.slice (some ⟨w24.heap.size, 0, none⟩) 1 1) [x24] from .inr ⟨w24.heap.size, 1, _, rfl, S24.out.hlo, heap_alloc_new w24 _, fun i k hi => get1_ (x24) i k hi, fun e => by have := (S24.out.depth.lt _ e).2; omega, fun e => by have := S24.out.fin _ e; omega⟩)
                have S25 := Lib.hid (S24.out.grow o25)
                have W25 := Lib.hid (W24.out.trans (Wr.same nv24 dv24 o25))
                refine (node_calls S25.out 6 t22 (.slice (some ⟨w24.heap.size, 0, none⟩) 1 1) [x24] K25.out (fun k hk => by simp at hk; first | omega | (rcases hk with rfl | rfl <;> omega) | (rcases hk with rfl | rfl | rfl <;> omega)) (by omega) (by simp)).mono ?_
                rintro e w26 ⟨nv26, dv26, hw26, v26, rfl, rfl, hs26⟩
                have W26 := Lib.hid (W25.out.trans hw26)
                have S26 := Lib.hid hs26
                clear hw26 hs26
                go_wp2_with fail
                go_ret
                exact post_ok (EQ24.out.trans rfl) W26.out rfl S26.out
          · by_cases hk2 : kq = 2
            · have EQ27 := Lib.hid (show syn.statement K (k + 1) l s = ((syn.chain K).bind syn.Pr.pure) l s from (EQ10.out.trans (by
                show (if (syn.next l s).1 = 3 then _ else if (syn.next l s).1 = 2 then syn.chain K else _ : syn.Pr Nat) l s = syn.chain K l s
                rw [if_neg (by rw [← hkq]; exact hk3), if_pos (hkq.symm.trans hk2)])).trans (bind_pure_ (syn.chain K) l s))
              rw [hk2] at HN
              go_wp2_with fail
              refine HN.out.mono ?_
              rintro e w27 ⟨q27, rfl, o27⟩
              have S27 := Lib.hid (S10.out.grow o27)
              have W27 := Lib.hid (W10.out.trans (Wr.same (pb := pb) nv10 dv10 o27))
              clear o27
              clear hk3 hk2 hkq
              go_wp2_with fail
              refine (chain_all hK w27 nv10 dv10 _ S27.out (by omega) (by omega)).mono ?_
              rintro e w28 ⟨nv28, dv28, hw28, hr28⟩
              have W28 := Lib.hid (W27.out.trans hw28)
              have HW28 := Lib.hid hw28
              clear hw28
              cases hp28 : (syn.chain K) l s with
              | bad q =>
                rw [hp28] at hr28
                obtain ⟨rfl, s', hq, hs⟩ := hr28
                exact ⟨rfl, post_bad (EQ27.out.trans (bind_bad hp28)) W28.out hq hs⟩
              | ok x28 s28 =>
                rw [hp28] at hr28
                obtain ⟨v28, rfl, rfl, hs⟩ := hr28
                have S28 := Lib.hid hs
                have hc28 := (syn.One.chain K).get hp28
                try simp only at hc28
                have hE := EQ27.out.trans (bind_ok hp28)
                try simp only [if_true, if_false, Bool.false_eq_true, Option.isSome] at hE
                have EQ28 := Lib.hid hE
                clear hE
                clear hs hp28
                go_wp2_with fail
                go_ret
                exact post_ok (EQ28.out.trans rfl) W28.out rfl S28.out
            · have EQ29 := Lib.hid (show syn.statement K (k + 1) l s = (syn.name.bind fun s => (syn.must ⟨#[123]⟩).bind fun _ => (syn.value K).bind fun x => (syn.must ⟨#[58]⟩).bind fun _ => (syn.row K (syn.attr K) ⟨#[125]⟩).bind fun l => syn.node 8 s ([x] ++ l)) l s from EQ10.out.trans (by
                show (if (syn.next l s).1 = 3 then _ else if (syn.next l s).1 = 2 then _ else _ : syn.Pr Nat) l s = _
                rw [if_neg (by rw [← hkq]; exact hk3), if_neg (by rw [← hkq]; exact hk2)]))
              go_wp2_with fail
              refine HN.out.mono ?_
              rintro e w29 ⟨q29, rfl, o29⟩
              have S29 := Lib.hid (S10.out.grow o29)
              have W29 := Lib.hid (W10.out.trans (Wr.same (pb := pb) nv10 dv10 o29))
              clear o29
              have hb3 : (kq == 3) = false := beq_false_of_ne hk3
              have hb2 : (kq == 2) = false := beq_false_of_ne hk2
              clear hk3 hk2 hkq
              go_wp2_with fail
              refine (name_calls S29.out).mono ?_
              rintro e w30 ⟨nv30, dv30, hw30, hr30⟩
              have W30 := Lib.hid (W29.out.trans hw30)
              have HW30 := Lib.hid hw30
              clear hw30
              cases hp30 : syn.name l s with
              | bad q =>
                rw [hp30] at hr30
                obtain ⟨rfl, s', hq, hs⟩ := hr30
                exact ⟨rfl, post_bad (EQ29.out.trans (bind_bad hp30)) W30.out hq hs⟩
              | ok x30 s30 =>
                rw [hp30] at hr30
                obtain ⟨v30, rfl, rfl, hs⟩ := hr30
                have S30 := Lib.hid hs
                have hc30 := syn.Costs.name l s x30 s30 hp30
                try simp only at hc30
                have hE := EQ29.out.trans (bind_ok hp30)
                try simp only [if_true, if_false, Bool.false_eq_true, Option.isSome] at hE
                have EQ30 := Lib.hid hE
                clear hE
                clear hs hp30
                go_wp2_with fail
                refine (must_calls S30.out ⟨#[123]⟩).mono ?_
                rintro e w31 ⟨nv31, dv31, hw31, hr31⟩
                have W31 := Lib.hid (W30.out.trans hw31)
                have HW31 := Lib.hid hw31
                clear hw31
                cases hp31 : syn.must ⟨#[123]⟩ l s30 with
                | bad q =>
                  rw [hp31] at hr31
                  obtain ⟨rfl, s', hq, hs⟩ := hr31
                  exact ⟨rfl, post_bad (EQ30.out.trans (bind_bad hp31)) W31.out hq hs⟩
                | ok x31 s31 =>
                  rw [hp31] at hr31
                  obtain ⟨v31, rfl, rfl, hs⟩ := hr31
                  have S31 := Lib.hid hs
                  have hc31 := syn.Costs.must ⟨#[123]⟩ l s30 x31 s31 hp31
                  try simp only at hc31
                  have hE := EQ30.out.trans (bind_ok hp31)
                  try simp only [if_true, if_false, Bool.false_eq_true, Option.isSome] at hE
                  have EQ31 := Lib.hid hE
                  clear hE
                  clear hs hp31
                  go_wp2_with fail
                  refine (HV.out w31 nv31 dv31 _ S31.out (by omega) (by omega)).mono ?_
                  rintro e w32 ⟨nv32, dv32, hw32, hr32⟩
                  have W32 := Lib.hid (W31.out.trans hw32)
                  have HW32 := Lib.hid hw32
                  clear hw32
                  cases hp32 : (syn.value K) l s31 with
                  | bad q =>
                    rw [hp32] at hr32
                    obtain ⟨rfl, s', hq, hs⟩ := hr32
                    exact ⟨rfl, post_bad (EQ31.out.trans (bind_bad hp32)) W32.out hq hs⟩
                  | ok x32 s32 =>
                    rw [hp32] at hr32
                    obtain ⟨v32, rfl, rfl, hs⟩ := hr32
                    have S32 := Lib.hid hs
                    have hc32 := (syn.One.value K).get hp32
                    try simp only at hc32
                    have hE := EQ31.out.trans (bind_ok hp32)
                    try simp only [if_true, if_false, Bool.false_eq_true, Option.isSome] at hE
                    have EQ32 := Lib.hid hE
                    clear hE
                    clear hs hp32
                    have hwz := W32.out.only.size
                    obtain ⟨hl2, hs2, hf2⟩ := laid_ S32.out [x32] (by simp) (we := w) hwz
                    have LC2 := Lib.hid hl2
                    have S2 := Lib.hid hs2
                    have FR2 := Lib.hid hf2
                    have W2 := Lib.hid (W32.out.trans (Wr.same nv32 dv32 ((Only.refl (fun _ => False) w32).alloc (.cells ([x32].map natV).toArray 3))))
                    clear hl2 hs2 hf2
                    go_upto_region 23 with fail
                    obtain ⟨wb, hwb⟩ : ∃ q, q = w32.alloc (Obj.cells #[natV x32] 3) := ⟨_, rfl⟩
                    obtain ⟨lv, hlv⟩ : ∃ q, q = Value.slice (some ⟨w32.heap.size, 0, none⟩) 1 1 := ⟨_, rfl⟩
                    rw [← hwb, ← hlv]
                    have LC3 := Lib.hid (show Loc F lo wb dv32 lv [x32] from by rw [hwb, hlv]; exact LC2.out)
                    have S3 := Lib.hid (show St (fun q => F q ∨ lv.ownBlock = some q) lo w0 a l c pb wb nv32 dv32 s32 from by rw [hwb, hlv]; exact S2.out)
                    have FR3 := Lib.hid (show ∀ q, lv.ownBlock = some q → w.heap.size ≤ q from by rw [hlv]; exact FR2.out)
                    have W3 := Lib.hid (show Wr pb nv dv w wb nv32 dv32 from by rw [hwb]; exact W2.out)
                    clear hwb hlv LC2 S2 FR2 W2 hwz
                    go_wp2_with fail
                    refine (must_calls S3.out ⟨#[58]⟩).mono ?_
                    rintro e w33 ⟨nv33, dv33, hw33, hr33⟩
                    have W33 := Lib.hid (W3.out.trans hw33)
                    have HW33 := Lib.hid hw33
                    clear hw33
                    cases hp33 : syn.must ⟨#[58]⟩ l s32 with
                    | bad q =>
                      rw [hp33] at hr33
                      obtain ⟨rfl, s', hq, hs⟩ := hr33
                      exact ⟨rfl, post_bad (EQ32.out.trans (bind_bad hp33)) W33.out hq (hs.less (fun q e => Or.inl e))⟩
                    | ok x33 s33 =>
                      rw [hp33] at hr33
                      obtain ⟨v33, rfl, rfl, hs⟩ := hr33
                      have S33 := Lib.hid hs
                      have hc33 := syn.Costs.must ⟨#[58]⟩ l s32 x33 s33 hp33
                      try simp only at hc33
                      have hE := EQ32.out.trans (bind_ok hp33)
                      try simp only [if_true, if_false, Bool.false_eq_true, Option.isSome] at hE
                      have EQ33 := Lib.hid hE
                      clear hE
                      have LC3_33 := Lib.hid (S3.out.loc LC3.out HW33.out)
                      clear hs hp33
                      go_wp2_with fail
                      refine (row_attr (fun F => attr_all (F := F) hK) (syn.One.attr K) hK ⟨#[125]⟩ S33.out (by omega) (by omega)).mono ?_
                      rintro e w34 ⟨nv34, dv34, hw34, hr34⟩
                      have W34 := Lib.hid (W33.out.trans hw34)
                      have LC34 := Lib.hid (S33.out.loc LC3_33.out hw34)
                      clear hw34
                      cases hp34 : syn.row K (syn.attr K) ⟨#[125]⟩ l s33 with
                      | bad q =>
                        rw [hp34] at hr34
                        obtain ⟨rfl, s', hq, hs⟩ := hr34
                        exact ⟨rfl, post_bad (EQ33.out.trans (bind_bad (p := syn.row K (syn.attr K) ⟨#[125]⟩) hp34)) W34.out hq (hs.less (fun q e => Or.inl e))⟩
                      | ok xs34 s34 =>
                        rw [hp34] at hr34
                        obtain ⟨v34, rfl, hl34, hs34, hf34⟩ := hr34
                        have hc34 := (syn.Many.row (syn.One.attr K) ⟨#[125]⟩ K).get hp34
                        have LX34 := Lib.hid hl34
                        have S34 := Lib.hid (hs34.less (fun q e => Or.inl e))
                        have hE := EQ33.out.trans (bind_ok hp34)
                        have EQ34 := Lib.hid hE
                        have hxs := hc34.1
                        have hlen := (syn.Many.row (syn.One.attr K) ⟨#[125]⟩ K).len hp34
                        have hpp := S34.out.pos
                        have HXL := Lib.hid (show 1 + xs34.length + 1 ≤ 9000 by omega)
                        clear hE hp34 hl34 hs34 hf34 hlen
                        go_wp2_with (at_builtin; refine wpList_append_row rfl (.tmp 75) (.tmp 79) 31 rfl lo 3 i1 (.int .i64 0) 1 8 Try.underlying31 HJ.out.1 HJ.out.2.1 HJ.out.2.2.1 HJ.out.2.2.2 rfl (by decide) lv 1 [natV x32] rfl LC34.out.1 v34 xs34.length (by decide) (xs34.map natV) rfl LX34.out.1 (fun u hu => by obtain ⟨y, _, rfl⟩ := List.mem_map.1 hu; rfl) (by have := HXL.out; unfold maxLen; omega) (by have := HXL.out; omega) (by have := S34.out.hlo; omega) ?_; intro vv34 wz34 hown34 hgr34 hwh34; obtain ⟨gq34, cp34, rfl⟩ := Joins.ownsRow_form hown34 (by omega))
                        obtain ⟨hl, hs, hw, hf⟩ := pushl_ (xs := [x32]) (ys := xs34) S34.out LC34.out FR3.out W34.out hown34 hgr34 hwh34
                        have LY34 := Lib.hid hl
                        have SY34 := Lib.hid (hs.less (fun q e => Or.inl e))
                        have WY34 := Lib.hid hw
                        clear hl hs hw hf hown34 hgr34 hwh34
                        refine (node_calls SY34.out 8 x30 (Value.slice (some ⟨gq34, 0, none⟩) (1 + xs34.length) cp34) ([x32] ++ xs34) LY34.out.kids (fun y hy => by rcases List.mem_append.1 hy with h | h; (simp at h; omega); (have := hxs y h; omega)) (by omega) (by have := HXL.out; simp; omega)).mono ?_
                        rintro e w35 ⟨nv35, dv35, hw35, v35, rfl, rfl, hs35⟩
                        have W35 := Lib.hid (WY34.out.trans hw35)
                        have S35 := Lib.hid hs35
                        have LY34_35 := Lib.hid (SY34.out.loc LY34.out hw35)
                        clear hw35 hs35
                        go_wp2_with fail
                        go_ret
                        exact post_ok (EQ34.out.trans rfl) W35.out rfl S35.out
end
end Go.Proofs.Ytoggcdldoinbnaa
