/- The parser's chains. -/
import Derived.Test.YtoggcdldoinbnaaSynB
namespace Go.Proofs.Ytoggcdldoinbnaa
open Go.RowKit
open syn (Tok Nd PS)
set_option linter.unusedVariables false
set_option linter.unusedSimpArgs false

section
variable {F : Nat → Prop} {lo : Nat} {w0 : World} {a : Option Addr} {l : List Tok} {c pb : Nat} {w w' : World} {nv dv nv' dv' : Value} {s : PS}

set_option maxRecDepth 20000 in
set_option maxHeartbeats 4000000 in
theorem chain_all {K : Nat} (hK : l.length < K) : Part F lo w0 a l c pb 25 K (syn.chain K) := by
  intro w nv dv s h hsm hfu
  have H := Lib.hid h
  have W0 := Lib.hid (Wr.refl pb nv dv w)
  have EQ0 := Lib.hid (show syn.chain K l s = ((syn.ref K).bind fun x => syn.peek.bind fun w => if syn.isOne 7 syn.arrows w = true then syn.chainGo K K [x] else syn.fail) l s from rfl)
  have HV := Lib.hid (value_all (F := F) (lo := lo) (w0 := w0) (a := a) (l := l) (c := c) (pb := pb) hK)
  obtain ⟨i1, hi1⟩ := int_info
  have HJ := Lib.hid hi1
  have hfew := h.few
  clear h hi1
  go_enter Try.func25, Try.ntmps25
  go_wp2_with fail
  refine (ref_all hK w nv dv s H.out hsm (by omega)).mono ?_
  rintro e w1 ⟨nv1, dv1, hw1, hr1⟩
  have W1 := Lib.hid (W0.out.trans hw1)
  have HW1 := Lib.hid hw1
  clear hw1
  cases hp1 : (syn.ref K) l s with
  | bad q =>
    rw [hp1] at hr1
    obtain ⟨rfl, s', hq, hs⟩ := hr1
    exact ⟨rfl, post_bad (EQ0.out.trans (bind_bad hp1)) W1.out hq hs⟩
  | ok x1 s1 =>
    rw [hp1] at hr1
    obtain ⟨v1, rfl, rfl, hs⟩ := hr1
    have S1 := Lib.hid hs
    have hc1 := (syn.One.ref K).get hp1
    try simp only at hc1
    have hE := EQ0.out.trans (bind_ok hp1)
    try simp only [if_true, if_false, Bool.false_eq_true, Option.isSome] at hE
    have EQ1 := Lib.hid hE
    clear hE
    clear hs hp1
    have hw1s := W1.out.only.size
    obtain ⟨hl2, hs2, hf2⟩ := laid_ S1.out [x1] (by simp) (we := w) hw1s
    have LC2 := Lib.hid hl2
    have S2 := Lib.hid hs2
    have FR2 := Lib.hid hf2
    have W2 := Lib.hid (W1.out.trans (Wr.same nv1 dv1 ((Only.refl (fun _ => False) w1).alloc (.cells ([x1].map natV).toArray 3))))
    clear hl2 hs2 hf2
    go_upto_region 2 with fail
    obtain ⟨wb, hwb⟩ : ∃ q, q = w1.alloc (Obj.cells #[natV x1] 3) := ⟨_, rfl⟩
    obtain ⟨lv, hlv⟩ : ∃ q, q = Value.slice (some ⟨w1.heap.size, 0, none⟩) 1 1 := ⟨_, rfl⟩
    rw [← hwb, ← hlv]
    have LC3 := Lib.hid (show Loc F lo wb dv1 lv [x1] from by rw [hwb, hlv]; exact LC2.out)
    have S3 := Lib.hid (show St (fun q => F q ∨ lv.ownBlock = some q) lo w0 a l c pb wb nv1 dv1 s1 from by rw [hwb, hlv]; exact S2.out)
    have FR3 := Lib.hid (show ∀ q, lv.ownBlock = some q → w.heap.size ≤ q from by rw [hlv]; exact FR2.out)
    have W3 := Lib.hid (show Wr pb nv dv w wb nv1 dv1 from by rw [hwb]; exact W2.out)
    clear hwb hlv LC2 S2 FR2 W2 hw1s
    obtain ⟨y5, hy5⟩ : ∃ y, syn.isOne 7 syn.arrows (syn.next l s1) = y := ⟨_, rfl⟩
    have o5 := (Only.refl (fun _ => False) wb).alloc (.cells #[.string ⟨#[45, 62]⟩, .string ⟨#[126, 62]⟩] 9)
    have SA5 := Lib.hid (S3.out.grow o5)
    have WA5 := Lib.hid (W3.out.trans (Wr.same nv1 dv1 o5))
    have LA5 := Lib.hid (S3.out.loc LC3.out (Wr.same nv1 dv1 o5))
    have HS5 : Calls Try.prog 34 #[ptr pb, Value.int .i64 7, Value.slice (some ⟨wb.heap.size, 0, none⟩) 2 2] (wb.alloc (.cells #[.string ⟨#[45, 62]⟩, .string ⟨#[126, 62]⟩] 9)) (fun e w' => e = .returned (.bool (syn.isOne 7 syn.arrows (syn.next l s1))) ∧ Only (fun _ => False) (wb.alloc (.cells #[.string ⟨#[45, 62]⟩, .string ⟨#[126, 62]⟩] 9)) w') := sees_calls SA5.out 7 syn.arrows wb.heap.size 2 (heap_alloc_new wb _) (by decide)
    rw [hy5] at HS5
    have HS5 := Lib.hid HS5
    have HY5 := Lib.hid hy5
    clear hy5 o5
    cases y5 with
    | true =>
      go_wp2_with fail
      refine HS5.out.mono ?_
      rintro e w5 ⟨rfl, o5⟩
      have S5 := Lib.hid (SA5.out.grow o5)
      have W5 := Lib.hid (WA5.out.trans (Wr.same nv1 dv1 o5))
      have LC5 := Lib.hid (SA5.out.loc LA5.out (Wr.same nv1 dv1 o5))
      clear o5 SA5 WA5 LA5
      go_wp2_with fail
      refine (sure_yes _ _).mono ?_
      rintro e w9 ⟨rfl, rfl⟩
      have EQ9 := Lib.hid (show syn.chain K l s = syn.chainGo K K [x1] l s1 from EQ1.out.trans (by
        show (if syn.isOne 7 syn.arrows (syn.next l s1) = true then _ else syn.fail : syn.Pr Nat) l s1 = _
        rw [if_pos HY5.out]))
      go_wp2_with fail
      go_loopg [3] (l.length) (fun gg v3 wr => ∃ (f : Nat) (xs : List Nat) (s1 : PS) (nv1 dv1 lv : Value), v3 = lv ∧ l.length - s1.at_ ≤ gg ∧ l.length - s1.at_ < f ∧ (∀ x ∈ xs, x < s1.n.length) ∧ s1.n.length + 1 ≤ 2 * s1.at_ ∧ s.at_ ≤ s1.at_ ∧ xs.length ≤ 2 * s1.at_ ∧ Hid (Loc F lo wr dv1 lv xs) ∧ Hid (St (fun q => F q ∨ lv.ownBlock = some q) lo w0 a l c pb wr nv1 dv1 s1) ∧ Hid (Wr pb nv dv w wr nv1 dv1) ∧ Hid (∀ q, lv.ownBlock = some q → w.heap.size ≤ q) ∧ Hid (syn.chain K l s = syn.chainGo K f xs l s1))
      case atStart => exact ⟨K, [x1], s1, nv1, dv1, _, rfl, by omega, by omega, (fun y hy => by simp at hy; omega), by omega, by omega, by simp; omega, LC5, S5, W5, FR3, EQ9⟩
      case round =>
        clear S5 W5 EQ9 LC5
        obtain ⟨f, xs, s20, nv20, dv20, lv, rfl, hgk, hf, hxs, hn20, ha20, hxl, LC20, S20, W20, FR20, EQ20⟩ := hrel
        obtain ⟨f, rfl⟩ : ∃ f', f = f' + 1 := ⟨f - 1, by omega⟩
        have hp20 := S20.out.pos
        have hxl9 : xs.length + 2 ≤ 9000 := by omega
        have HXL0 := Lib.hid hxl9
        have HXL := Lib.hid (show xs.length + 1 ≤ 9000 by omega)
        clear hxl9
        have EQ21 := Lib.hid (EQ20.out.trans (show syn.chainGo K (f + 1) xs l s20 = ((syn.acc (syn.isOne 7 syn.arrows)).bind fun r => match r with | none => syn.node 10 ⟨#[]⟩ xs | some t => (syn.node 12 t []).bind fun a => (syn.ref K).bind fun b => syn.chainGo K f (xs ++ [a] ++ [b])) l s20 from rfl))
        obtain ⟨y31, hy31⟩ : ∃ y, syn.isOne 7 syn.arrows (syn.next l s20) = y := ⟨_, rfl⟩
        have o31 := (Only.refl (fun _ => False) wr).alloc (.cells #[.string ⟨#[45, 62]⟩, .string ⟨#[126, 62]⟩] 9)
        have SA31 := Lib.hid (S20.out.grow o31)
        have WA31 := Lib.hid (W20.out.trans (Wr.same nv20 dv20 o31))
        have LA31 := Lib.hid (S20.out.loc LC20.out (Wr.same nv20 dv20 o31))
        have HS31 : Calls Try.prog 34 #[ptr pb, Value.int .i64 7, Value.slice (some ⟨wr.heap.size, 0, none⟩) 2 2] (wr.alloc (.cells #[.string ⟨#[45, 62]⟩, .string ⟨#[126, 62]⟩] 9)) (fun e w' => e = .returned (.bool (syn.isOne 7 syn.arrows (syn.next l s20))) ∧ Only (fun _ => False) (wr.alloc (.cells #[.string ⟨#[45, 62]⟩, .string ⟨#[126, 62]⟩] 9)) w') := sees_calls SA31.out 7 syn.arrows wr.heap.size 2 (heap_alloc_new wr _) (by decide)
        rw [hy31] at HS31
        have HS31 := Lib.hid HS31
        have HY31 := Lib.hid hy31
        clear hy31 o31
        cases y31 with
        | true =>
          go_wp2_with fail
          refine HS31.out.mono ?_
          rintro e w31 ⟨rfl, o31⟩
          have S31 := Lib.hid (SA31.out.grow o31)
          have W31 := Lib.hid (WA31.out.trans (Wr.same nv20 dv20 o31))
          have LC31 := Lib.hid (SA31.out.loc LA31.out (Wr.same nv20 dv20 o31))
          clear o31 SA31 WA31 LA31
          have hpl := one_lt (by decide) HY31.out
          obtain ⟨t, ht⟩ : ∃ t, t = (syn.next l s20).2 := ⟨_, rfl⟩
          obtain ⟨s51, hs51⟩ : ∃ q, q = ({ s20 with at_ := s20.at_ + 1 } : PS) := ⟨_, rfl⟩
          have EQ51 := Lib.hid (show syn.chain K l s = ((syn.node 12 t []).bind fun a => (syn.ref K).bind fun b => syn.chainGo K f (xs ++ [a] ++ [b])) l s51 from by rw [ht, hs51]; exact EQ21.out.trans (bind_ok (acc_yes HY31.out)))
          have ha51 : s51.at_ ≤ s20.at_ + 1 ∧ s20.at_ + 1 ≤ s51.at_ := by rw [hs51]; exact ⟨Nat.le_refl _, Nat.le_refl _⟩
          have hn51 : s51.n.length ≤ s20.n.length ∧ s20.n.length ≤ s51.n.length := by rw [hs51]; exact ⟨Nat.le_refl _, Nat.le_refl _⟩
          have HT := take_calls S31.out hpl
          rw [← hs51, ← ht] at HT
          have HT := Lib.hid HT
          clear hs51 ht
          go_wp2_with fail
          refine HT.out.mono ?_
          rintro e w51 ⟨rfl, h51, hw51⟩
          have S51 := Lib.hid h51
          have W51 := Lib.hid (W31.out.trans hw51)
          have LC51 := Lib.hid (S31.out.loc LC31.out hw51)
          clear h51 hw51 HT
          go_wp2_with fail
          refine (node_calls S51.out 12 t (.slice none 0 0) [] (.inl ⟨rfl, none, 0, rfl⟩) (fun k hk => by cases hk) (by omega) (by simp)).mono ?_
          rintro e w52 ⟨nv52, dv52, hw52, v52, rfl, rfl, h52⟩
          obtain ⟨s52, hs52⟩ : ∃ q, q = ({ s51 with n := s51.n ++ [⟨12, t, []⟩], d := s51.d ++ [syn.depthOf s51.d []] } : PS) := ⟨_, rfl⟩
          obtain ⟨x52, hx52⟩ : ∃ q, q = s51.n.length := ⟨_, rfl⟩
          have EQ52 := Lib.hid (show syn.chain K l s = ((syn.ref K).bind fun b => syn.chainGo K f (xs ++ [x52] ++ [b])) l s52 from EQ51.out.trans (bind_ok (show syn.node 12 t [] l s51 = .ok x52 s52 from by rw [hs52, hx52]; rfl)))
          have ha52 : s52.at_ ≤ s51.at_ ∧ s51.at_ ≤ s52.at_ := by rw [hs52]; exact ⟨Nat.le_refl _, Nat.le_refl _⟩
          have hn52 : s52.n.length ≤ s51.n.length + 1 ∧ s51.n.length + 1 ≤ s52.n.length := by rw [hs52]; simp
          have hxx : x52 < s52.n.length ∧ x52 ≤ s51.n.length := by omega
          rw [← hs52] at h52
          rw [← hx52]
          have S52 := Lib.hid h52
          have W52 := Lib.hid (W51.out.trans hw52)
          have LC52 := Lib.hid (S51.out.loc LC51.out hw52)
          clear h52 hw52 hs52 hx52
          go_upto_region 5 with (at_builtin; refine wpList_append_any rfl (.tmp 15) (.tmp 20) 31 rfl lo 3 i1 (.int .i64 0) 1 8 Try.underlying31 HJ.out.1 HJ.out.2.1 HJ.out.2.2.1 HJ.out.2.2.2 rfl (by decide) u3 (xs).length _ rfl (LC52.out.1.alloc _) ⟨w52.heap.size, 0, none⟩ 1 1 (by decide) [natV x52] rfl rfl (new_cells w52 _ _) (by simp [Value.oneCell']) (by have := HXL.out; unfold maxLen; first | omega | (simp at this ⊢; omega)) (by have := HXL.out; first | omega | (simp at this ⊢; omega)) (by have := S52.out.hlo; simp; omega) ?_; intro vv61 w61 hown61 hgr61 hwh61; obtain ⟨gq61, cp61, rfl⟩ := Joins.ownsRow_form hown61 (by omega))
          obtain ⟨hl61, hs61, hw61, hf61⟩ := push_ S52.out LC52.out FR20.out W52.out hown61 hgr61 hwh61
          have LC61 := Lib.hid hl61
          have S61 := Lib.hid hs61
          have W61 := Lib.hid hw61
          have FR61 := Lib.hid hf61
          clear hl61 hs61 hw61 hf61 hown61 hgr61 hwh61
          go_wp2_with fail
          refine (ref_all (F := fun q => F q ∨ (Value.slice (some ⟨gq61, 0, none⟩) ((xs).length + 1) cp61).ownBlock = some q) hK w61 nv52 dv52 _ S61.out (by omega) (by omega)).mono ?_
          rintro e w62 ⟨nv62, dv62, hw62, hr62⟩
          have W62 := Lib.hid (W61.out.trans hw62)
          have HW62 := Lib.hid hw62
          clear hw62
          cases hp62 : (syn.ref K) l s52 with
          | bad q =>
            rw [hp62] at hr62
            obtain ⟨rfl, s', hq, hs⟩ := hr62
            exact ⟨rfl, post_bad (EQ52.out.trans (bind_bad hp62)) W62.out hq (hs.less (fun q e => Or.inl e))⟩
          | ok x62 s62 =>
            rw [hp62] at hr62
            obtain ⟨v62, rfl, rfl, hs⟩ := hr62
            have S62 := Lib.hid hs
            have hc62 := (syn.One.ref K).get hp62
            try simp only at hc62
            have hE := EQ52.out.trans (bind_ok hp62)
            try simp only [if_true, if_false, Bool.false_eq_true, Option.isSome] at hE
            have EQ62 := Lib.hid hE
            clear hE
            have LC61_62 := Lib.hid (S61.out.loc LC61.out HW62.out)
            clear hs hp62
            have HXL := Lib.hid (show (xs ++ [x52]).length + 1 ≤ 9000 by have := HXL0.out; simp; omega)
            go_upto_region 3 with (at_builtin; refine wpList_append_any rfl (.tmp 22) (.tmp 25) 31 rfl lo 3 i1 (.int .i64 0) 1 8 Try.underlying31 HJ.out.1 HJ.out.2.1 HJ.out.2.2.1 HJ.out.2.2.2 rfl (by decide) (Value.slice (some ⟨gq61, 0, none⟩) ((xs).length + 1) cp61) ((xs ++ [x52])).length _ rfl (LC61_62.out.1.alloc _) ⟨w62.heap.size, 0, none⟩ 1 1 (by decide) [natV x62] rfl rfl (new_cells w62 _ _) (by simp [Value.oneCell']) (by have := HXL.out; unfold maxLen; first | omega | (simp at this ⊢; omega)) (by have := HXL.out; first | omega | (simp at this ⊢; omega)) (by have := S62.out.hlo; simp; omega) ?_; intro vv63 w63 hown63 hgr63 hwh63; obtain ⟨gq63, cp63, rfl⟩ := Joins.ownsRow_form hown63 (by omega))
            obtain ⟨hl63, hs63, hw63, hf63⟩ := push_ S62.out LC61_62.out FR61.out W62.out hown63 hgr63 hwh63
            have LC63 := Lib.hid hl63
            have S63 := Lib.hid hs63
            have W63 := Lib.hid hw63
            have FR63 := Lib.hid hf63
            clear hl63 hs63 hw63 hf63 hown63 hgr63 hwh63
            have hll : (xs ++ [x52]).length = xs.length + 1 := by simp
            rw [hll] at LC63 S63 FR63
            have hps := S63.out.pos
            go_roundg (l.length - s62.at_)
            case measure => omega
            case rel => exact ⟨f, xs ++ [x52] ++ [x62], s62, nv62, dv62, _, rfl, Nat.le_refl _, by omega, (fun y hy => by simp at hy; rcases hy with h | h | h; (have := hxs y h; omega); omega; omega), by omega, by omega, by simp; omega, LC63, S63, W63, FR63, EQ62⟩
        | false =>
          go_wp2_with fail
          refine HS31.out.mono ?_
          rintro e w31 ⟨rfl, o31⟩
          have S31 := Lib.hid (SA31.out.grow o31)
          have W31 := Lib.hid (WA31.out.trans (Wr.same nv20 dv20 o31))
          have LC31 := Lib.hid (SA31.out.loc LA31.out (Wr.same nv20 dv20 o31))
          clear o31 SA31 WA31 LA31
          have HXS := Lib.hid hxs
          have EQ50 := Lib.hid (show syn.chain K l s = syn.node 10 ⟨#[]⟩ xs l s20 from EQ21.out.trans (bind_ok (acc_no HY31.out)))
          go_wp2_with fail
          have S64 := Lib.hid (S31.out.less (fun q e => Or.inl e))
          refine (node_calls S64.out 10 ⟨#[]⟩ u3 xs LC31.out.kids HXS.out (by omega) (by have := HXL.out; first | omega | (simp at this ⊢; omega) | (simp))).mono ?_
          rintro e w65 ⟨nv65, dv65, hw65, v65, rfl, rfl, hs65⟩
          have W65 := Lib.hid (W31.out.trans hw65)
          have S65 := Lib.hid hs65
          have LC31_65 := Lib.hid (S64.out.loc LC31.out hw65)
          clear hw65 hs65
          go_wp2_with fail
          go_ret
          exact post_ok (EQ50.out.trans rfl) W65.out rfl S65.out
    | false =>
      go_wp2_with fail
      refine HS5.out.mono ?_
      rintro e w5 ⟨rfl, o5⟩
      have S5 := Lib.hid (SA5.out.grow o5)
      have W5 := Lib.hid (WA5.out.trans (Wr.same nv1 dv1 o5))
      have LC5 := Lib.hid (SA5.out.loc LA5.out (Wr.same nv1 dv1 o5))
      clear o5 SA5 WA5 LA5
      go_wp2_with fail
      refine (sure_no _ _).mono ?_
      rintro e w9 ⟨rfl, rfl⟩
      refine ⟨rfl, post_bad (s' := s1) (EQ1.out.trans ?_) W5.out rfl (S5.out.less (fun q e => Or.inl e))⟩
      show (if syn.isOne 7 syn.arrows (syn.next l s1) = true then _ else syn.fail : syn.Pr Nat) l s1 = _
      rw [if_neg (by rw [HY5.out]; decide)]
      rfl
end
end Go.Proofs.Ytoggcdldoinbnaa
