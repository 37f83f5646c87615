/- SyntaxJoins' walk: a manifest behind an include. -/
import Derived.Test.YtoggcdldoinbnaaSynZ
import Derived.RegionTactic
namespace Go.Proofs.Ytoggcdldoinbnaa
open Go.RowKit
open syn (Tok Nd PS)
set_option linter.unusedVariables false
set_option linter.unusedSimpArgs false

def two3 : List W3 := [(1, (⟨#[105, 110, 99, 108, 117, 100, 101]⟩ : ByteArray), 0), (1, (⟨#[97, 58, 58, 98]⟩ : ByteArray), 0)]
theorem own_two {lo : Nat} (w : World) (h : lo ≤ w.heap.size) : (w.alloc (.cells #[.int .i64 1, .string (⟨#[105, 110, 99, 108, 117, 100, 101]⟩ : ByteArray), .int .i64 0, .int .i64 1, .string (⟨#[97, 58, 58, 98]⟩ : ByteArray), .int .i64 0] 37)).ownsRow lo 37 3 (.slice (some ⟨w.heap.size, 0, none⟩) 2 2) two3.length (flat3 two3) :=
  ⟨rfl, .inr ⟨w.heap.size, 2, _, rfl, h, heap_alloc_new w _, Nat.le_refl _, by unfold maxLen; omega, rfl, rfl⟩⟩
theorem kids_small {K F : Nat} {l : List Tok} {x : Nat} {s : PS} (e : syn.all K F l syn.start = .ok x s) (hn : s.n.length ≤ 1024) {i : Nat} {nd : Nd} (hi : s.n[i]? = some nd) : nd.kids.length ≤ 1024 ∧ ∀ k, k < nd.kids.length → nd.kids.getD k 0 < 1024 := by
  obtain ⟨h1, t⟩ := syn.all_tree e
  have hl : i < s.n.length := by
    rcases Nat.lt_or_ge i s.n.length with h | h
    · exact h
    · rw [List.getElem?_eq_none h] at hi; cases hi
  obtain ⟨q, -, tq⟩ := t.each i (Nat.zero_le _) (by omega)
  cases tq with
  | mk h f =>
    rw [hi] at h
    cases h
    refine ⟨by have := syn.Fo.count _ _ _ _ rfl f; omega, fun k hk => ?_⟩
    have := (syn.Fo.range _ _ _ _ rfl f (nd.kids.getD k 0) (by rw [List.getD_eq_getElem?_getD, List.getElem?_eq_getElem hk]; exact List.getElem_mem hk)).2
    omega
/-- What the three calls of Parse answer. -/
theorem joined (l : List Tok) (hl : l.length ≤ 4094) (K : Nat) (hK : K = l.length + 3) :
    (∃ p e, syn.parse K K l = ([], p, e) ∧ (e ≠ 0 ∧ p ≤ l.length) ∧ syn.parse K K (syn.inclW :: syn.abW :: l) = ([], p + 2 * (if e = 120 then 1 else 0), e)) ∨
    (∃ m L p e, syn.parse K K l = (m ++ [⟨1, (⟨#[]⟩ : ByteArray), L⟩], 0, 0) ∧ syn.parse K K (syn.inclW :: syn.abW :: l) = ([], p, 5) ∧ e = 0) ∨
    ∃ m L, syn.parse K K l = (m ++ [⟨1, (⟨#[]⟩ : ByteArray), L⟩], 0, 0) ∧ syn.parse K K (syn.inclW :: syn.abW :: l) = (syn.inclN :: m.map syn.upN ++ [⟨1, (⟨#[]⟩ : ByteArray), [0] ++ L.map syn.up⟩], 0, 0) ∧ m.length ≤ 1024 ∧ ∀ (i : Nat) (nd : Nd), (m ++ [⟨1, (⟨#[]⟩ : ByteArray), L⟩])[i]? = some nd → nd.kids.length ≤ 1024 ∧ ∀ k, k < nd.kids.length → nd.kids.getD k 0 < 1024 := by
  obtain ⟨k, rfl⟩ : ∃ k, K = k + 1 := ⟨l.length + 2, by omega⟩
  have hf := all_fuel (k + 1) k l (by omega)
  have hj := syn.all_joined k k l
  have hlen : (syn.inclW :: syn.abW :: l).length ≤ 4096 := by simp; omega
  unfold syn.parse
  rw [if_neg (by omega), if_neg (by omega), hf]
  cases e : syn.all (k + 1) k l syn.start with
  | bad a =>
    rw [e] at hj
    rw [hj]
    exact .inl ⟨a, 120, rfl, ⟨by decide, syn.all_bound e⟩, rfl⟩
  | ok x s =>
    rw [e] at hj
    obtain ⟨s', m, L, h1, h2, h3, h4⟩ := hj
    rw [h1]
    simp only
    have hn : s'.n.length = s.n.length + 1 := by rw [h2, h3]; simp
    by_cases c : 1024 < s.n.length ∨ 32 < syn.most s.d
    · rw [if_pos c, if_pos (by rcases c with c | c; (left; omega); (right; exact h4.2 c))]
      exact .inl ⟨0, 5, rfl, ⟨by decide, Nat.zero_le _⟩, rfl⟩
    · rw [if_neg c]
      right
      by_cases c' : 1024 < s'.n.length ∨ 32 < syn.most s'.d
      · rw [if_pos c']
        exact .inl ⟨m, L, 0, 0, by rw [h2], rfl, rfl⟩
      · rw [if_neg c']
        exact .inr ⟨m, L, by rw [h2], by rw [h3], by rw [h2] at c; simp at c; omega, fun i nd hi => by
          rw [← h2] at hi
          exact kids_small (e := e) (by omega) hi⟩

set_option maxRecDepth 20000 in
set_option maxHeartbeats 4000000 in
theorem join_walk (a0 : ByteArray) (w : World) : Calls Try.prog 5 #[.string a0] w fun e w' => e = .returned (.bool true) ∧ Below w.heap.size w w' := by
  obtain ⟨xs, hxs, hwc⟩ := words_rows a0
  go_enter Try.func5, Try.ntmps5
  go_wp2_with fail
  refine (shown_calls w).mono ?_
  rintro e w1 ⟨rfl, o1⟩
  go_wp2_with fail
  refine (hwc w1).mono ?_
  rintro e w2 ⟨A2, c2, rfl, hA2, hr2, o2⟩
  clear hwc
  have p2 := o1.trans o2
  by_cases hbig : 4094 < xs.length
  · have hbi : (4094 : Int) < (xs.length : Int) := by omega
    have HB := Lib.hid (p2.below (Below.refl _ _) (Nat.le_refl _) (fun _ e => e.elim))
    clear p2
    go_wp2_with fail
    exact ⟨rfl, _, by simp [results, Try.results5, go_sem], rfl, HB.out⟩
  · have hbi : ¬ (4094 : Int) < (xs.length : Int) := by omega
    obtain ⟨l, hl⟩ : ∃ l, l = xs.map tok3 := ⟨_, rfl⟩
    have hll : l.length = xs.length := by rw [hl, List.length_map]
    obtain ⟨K, hK⟩ : ∃ K, K = l.length + 3 := ⟨_, rfl⟩
    obtain ⟨n1, q1, e1, hP1⟩ : ∃ n p e, syn.parse K K l = (n, p, e) := ⟨_, _, _, rfl⟩
    obtain ⟨n2, q2, e2, hP2⟩ : ∃ n p e, syn.parse K K (syn.inclW :: syn.abW :: l) = (n, p, e) := ⟨_, _, _, rfl⟩
    have hj := joined l (by omega) K hK
    rw [hP1, hP2] at hj
    have pc := parse_calls (a := A2) (l := l) (w := w2) (c := c2) (K := K) (by omega) (hl ▸ hr2.words) rfl (by omega)
    rw [hll, hP1] at pc
    have HP2 := Lib.hid p2
    have HR2 := Lib.hid hr2
    have HL := Lib.hid hl
    have HK := Lib.hid hK
    have HLL := Lib.hid hll
    have HJ := Lib.hid hj
    have HE1 := Lib.hid hP1
    have HE2 := Lib.hid hP2
    clear p2 o1 o2 hr2 hl hK hll hj hP1 hP2
    go_wp2_with fail
    refine pc.mono ?_
    clear pc
    rintro e w3 ⟨nv3, rfl, ht3, o3⟩
    obtain ⟨N3, d3, rfl⟩ := ht3.slice
    obtain ⟨L1, hL1⟩ : ∃ q, q = n1.length := ⟨_, rfl⟩
    rw [← hL1]
    have HL1 := Lib.hid hL1
    rw [← hL1] at ht3
    clear hL1
    obtain ⟨hc3, hz3⟩ := arena_new w3 (.slice none 0 0) 25
    go_upto_region 7 with fail
    obtain ⟨wA, hwA⟩ : ∃ q, q = w3.alloc (.cells #[.slice N3 L1 d3] 25) := ⟨_, rfl⟩
    rw [← hwA]
    have hown := own_two wA (Nat.le_refl _)
    have oA := hwA ▸ o3.alloc (.cells #[.slice N3 L1 d3] 25)
    have bA := hwA ▸ heap_alloc_new w3 (.cells #[.slice N3 L1 d3] 25)
    have hbs : wA.heap.size = w3.heap.size + 1 := by rw [hwA]; exact heap_alloc_size _ _
    obtain ⟨wB, hwB⟩ : ∃ q, q = wA.alloc (.cells #[.int .i64 1, .string (⟨#[105, 110, 99, 108, 117, 100, 101]⟩ : ByteArray), .int .i64 0, .int .i64 1, .string (⟨#[97, 58, 58, 98]⟩ : ByteArray), .int .i64 0] 37) := ⟨_, rfl⟩
    rw [← hwB] at hown ⊢
    have oB := hwB ▸ oA.alloc (.cells #[.int .i64 1, .string (⟨#[105, 110, 99, 108, 117, 100, 101]⟩ : ByteArray), .int .i64 0, .int .i64 1, .string (⟨#[97, 58, 58, 98]⟩ : ByteArray), .int .i64 0] 37)
    have oAB : Only (fun _ => False) wA wB := hwB ▸ (Only.refl _ wA).alloc _
    have hr2 := HR2.out.keep (Nat.le_refl _) oB (fun _ _ e => e)
    have HX0 := Lib.hid (show 0 < xs.length ∨ 0 < two3.length from .inr (by decide))
    have HX1 := Lib.hid (show two3.length + xs.length ≤ 70000 by show 2 + xs.length ≤ 70000; omega)
    have HSB := Lib.hid (show w3.heap.size + 1 ≤ wB.heap.size from hbs ▸ oAB.size)
    have HR := Lib.hid hr2
    rw [hbs] at hown
    have HOWN := Lib.hid hown
    have HOB := Lib.hid oB
    have HOA := Lib.hid oA
    have HOAB := Lib.hid oAB
    have HBA := Lib.hid bA
    have HT3 := Lib.hid ht3
    have HO3 := Lib.hid (hwA ▸ (Only.refl (fun _ => False) w3).alloc (.cells #[.slice N3 L1 d3] 25))
    clear hr2 hown hwA hwB hc3 hz3 oA bA oB oAB ht3 o3
    go_wp2_with (at_builtin; refine wpList_words (v := .slice (some ⟨w3.heap.size + 1, 0, none⟩) 2 2) rfl (.tmp 37) (.tmp 38) rfl rfl rfl rfl HOWN.out HR.out HX0.out HX1.out HSB.out hA2 ?_; intro v4 w4 hown4 hgr4)
    have o4 := (HOAB.out.grown hgr4 (fun q e => .inr (by injection e with e; subst e; show wA.heap.size ≤ w3.heap.size + 1; omega)))
    obtain ⟨A4, c4, rfl, hr4⟩ := WRow.of_own hown4
    have hzl : (two3 ++ xs).length = xs.length + 2 := by rw [List.length_append]; show 2 + xs.length = _; omega
    have hzt : (two3 ++ xs).map tok3 = syn.inclW :: syn.abW :: l := by rw [List.map_append, HL.out]; rfl
    have pc := parse_calls (a := A4) (l := syn.inclW :: syn.abW :: l) (w := w4) (c := c4) (K := K) (by rw [HK.out]; simp) (hzt ▸ hr4.words) rfl (by have := HLL.out; simp; omega)
    rw [show (syn.inclW :: syn.abW :: l).length = (two3 ++ xs).length by rw [hzl, ← HLL.out]; rfl, HE2.out] at pc
    refine pc.mono ?_
    clear pc
    rintro e w5 ⟨nv5, rfl, ht5, o5⟩
    obtain ⟨N5, d5, rfl⟩ := ht5.slice
    obtain ⟨L2, hL2⟩ : ∃ q, q = n2.length := ⟨_, rfl⟩
    rw [← hL2] at ht5 ⊢
    have HL2 := Lib.hid hL2
    have HT5 := Lib.hid ht5
    have HO5 := Lib.hid (o4.trans o5)
    clear hL2 ht5 o4 o5 hown4 hgr4 hr4 hzl hzt
    obtain ⟨hc5, hz5⟩ := arena_new w5 (.slice none 0 0) 25
    have pc := parse_calls (a := A2) (l := l) (w := w5.alloc (.cells #[.slice N5 L2 d5] 25)) (c := c2) (K := K) (by rw [HK.out]; omega) (lo := (w5.alloc (.cells #[.slice N5 L2 d5] 25)).heap.size) (fun i k t hi => by
      have o6 := (HOA.out.trans HO5.out).alloc (.cells #[.slice N5 L2 d5] 25)
      obtain ⟨x, q, e1, e2, e3⟩ := ((HR2.out.keep (Nat.le_refl _) o6 (fun _ _ e => e)).words) i k t (HL.out ▸ hi)
      exact ⟨x, q, e1, Nat.lt_of_lt_of_le e2 o6.size, e3⟩) rfl (by have := HLL.out; omega)
    rw [HE1.out, HLL.out] at pc
    go_wp2_with fail
    refine pc.mono ?_
    clear pc
    rintro e w7 ⟨nv7, rfl, ht7, o7⟩
    obtain ⟨N7, d7, rfl⟩ := ht7.slice
    rw [← HL1.out] at ht7 ⊢
    obtain ⟨hc7, hz7⟩ := arena_new w7 (.slice none 0 0) 25
    go_upto_region 9 with fail
    obtain ⟨wD, hwD⟩ : ∃ q, q = w7.alloc (.cells #[.slice N7 L1 d7] 25) := ⟨_, rfl⟩
    rw [← hwD]
    have o7D : Only (fun _ => False) w7 wD := hwD ▸ (Only.refl _ w7).alloc _
    have o5D : Only (fun _ => False) w5 wD := (((Only.refl _ w5).alloc (.cells #[.slice N5 L2 d5] 25)).trans o7).trans o7D
    have oAD := HO5.out.trans o5D
    have b1 := oAD.keeps HBA.out (fun e => e)
    have b2 := (o7.trans o7D).keeps (heap_alloc_new w5 (.cells #[.slice N5 L2 d5] 25)) (fun e => e)
    have b3 : wD.heap[w7.heap.size]? = some (.cells #[.slice N7 L1 d7] 25 (0, 0)) := hwD ▸ heap_alloc_new w7 _
    have HR1 := Lib.hid (HT3.out.stay (HO3.out.trans oAD)).reads
    have HR3 := Lib.hid (HT5.out.stay o5D).reads
    have HWD := Lib.hid ((HP2.out.trans HOA.out).trans oAD)
    have HB := Lib.hid (HWD.out.below (Below.refl _ _) (Nat.le_refl _) (fun _ e => e.elim))
    obtain ⟨p1, hp1⟩ : ∃ q, q = w3.heap.size := ⟨_, rfl⟩
    obtain ⟨p2, hp2⟩ : ∃ q, q = w5.heap.size := ⟨_, rfl⟩
    obtain ⟨p3, hp3⟩ : ∃ q, q = w7.heap.size := ⟨_, rfl⟩
    rw [← hp1] at b1 ⊢
    rw [← hp2] at b2 ⊢
    rw [← hp3] at b3 ⊢
    have B1 := Lib.hid b1
    have B2 := Lib.hid b2
    have B3 := Lib.hid b3
    have k1 : wD.cell? ⟨p1, 0, none⟩ = some (.slice N3 L1 d3) := (cellOf b1 0).trans rfl
    have k2 : wD.cell? ⟨p2, 0, none⟩ = some (.slice N5 L2 d5) := (cellOf b2 0).trans rfl
    have k3 : wD.cell? ⟨p3, 0, none⟩ = some (.slice N7 L1 d7) := (cellOf b3 0).trans rfl
    clear b1 b2 b3 hp1 hp2 hp3 oAD o5D o7D o7 hwD ht7 hc7 hz7 hc5 hz5 hbs HX0 HX1 HSB HR HOWN HOB HOAB HBA HT3 HO3 HT5 HO5 HOA HE1 HE2 HL HK HR2 HP2
    rcases HJ.out with ⟨p, e, h1, h2, h3⟩ | ⟨m, L, p, e, h1, h2, -⟩ | ⟨m, L, h1, h2, hm1024, hks⟩
    · injection h1 with h11 h12
      injection h12 with h12 h13
      injection h3 with h31 h32
      injection h32 with h32 h33
      subst h33 h13 h12 h32
      have hbe : (e1 == 0) = false := by simpa using h2.1
      have hq1 : q1 ≤ 4094 := by have := HLL.out; omega
      clear h2
      clear h11 h31 HJ
      by_cases h120 : e1 = 120
      · subst h120
        go_wp2_with fail
        exact ⟨rfl, _, by simp [results, Try.results5, go_sem], rfl, HB.out⟩
      · have hb2 : (e1 == 120) = false := by simpa using h120
        rw [if_neg h120]
        go_wp2_with fail
        exact ⟨rfl, _, by simp [results, Try.results5, go_sem], rfl, HB.out⟩
    · injection h1 with h11 h12
      injection h12 with h12 h13
      injection h2 with h31 h32
      injection h32 with h32 h33
      subst h12 h13 h32 h33
      clear h11 h31 HJ
      go_wp2_with fail
      exact ⟨rfl, _, by simp [results, Try.results5, go_sem], rfl, HB.out⟩
    · injection h1 with h11 h12
      injection h12 with h12 h13
      injection h2 with h31 h32
      injection h32 with h32 h33
      subst h12 h13 h32 h33
      clear HJ
      obtain ⟨M, hM⟩ : ∃ q, q = m.length := ⟨_, rfl⟩
      obtain ⟨LL, hLL⟩ : ∃ q, q = L.length := ⟨_, rfl⟩
      have hl1 : L1 = M + 1 := by rw [HL1.out, h11, hM]; simp
      have hl2 : L2 = M + 1 + 1 := by rw [HL2.out, h31, hM]; simp
      have hM4 : M ≤ 1024 := by omega
      subst hl1 hl2
      have i1 : n1[M]? = some ⟨1, (⟨#[]⟩ : ByteArray), L⟩ := by rw [h11, List.getElem?_append_right (by omega), hM, Nat.sub_self]; rfl
      have j0 : n2[0]? = some syn.inclN := by rw [h31]; rfl
      have j1 : n2[M + 1]? = some ⟨1, (⟨#[]⟩ : ByteArray), [0] ++ L.map syn.up⟩ := by rw [h31, List.getElem?_append_right (by simp; omega)]; simp [hM]
      obtain ⟨g3, d3', e3, -⟩ := HR1.out.form i1
      obtain ⟨g5, d5', e5, -⟩ := HR3.out.form j0
      injection e3 with e31 e32 e33
      injection e5 with e51 e52 e53
      subst e31 e51
      clear e32 e33 e52 e53
      obtain ⟨-, -, A6, c6, r1, -⟩ := HR1.out.node i1
      obtain ⟨r2, r3, -⟩ := HR3.out.node j0
      obtain ⟨-, -, A8, c8, r4, -⟩ := HR3.out.node j1
      rw [show ([0] ++ L.map syn.up : List Nat).length = LL + 1 by simp [hLL]] at r4
      rw [← hLL] at r1
      rw [Nat.zero_mul] at r2 r3
      have hL4 : LL ≤ 1024 := by rw [hLL]; exact (hks M _ (h11 ▸ i1)).1
      have HKS := Lib.hid (h11 ▸ hks : ∀ (i : Nat) (nd : Nd), n1[i]? = some nd → nd.kids.length ≤ 1024 ∧ ∀ k, k < nd.kids.length → nd.kids.getD k 0 < 1024)
      have HN1 := Lib.hid h11
      have HN2 := Lib.hid h31
      have HMM := Lib.hid hM
      clear hks h11 h31 i1 j0 j1 hLL hM hm1024
      unfold syn.inclN at r2 r3
      simp only at r2 r3
      go_upto_region 16 with fail
      go_region
      have oE : Only (fun _ => False) wD wD.drew := (Only.refl _ wD).drew
      have HR1E := Lib.hid (HR1.out.keep (Nat.le_refl _) oE (fun _ _ e => e))
      have HR3E := Lib.hid (HR3.out.keep (Nat.le_refl _) oE (fun _ _ e => e))
      have B1E := Lib.hid (oE.keeps B1.out (fun e => e))
      have B2E := Lib.hid (oE.keeps B2.out (fun e => e))
      have HBE := Lib.hid ((HWD.out.trans oE).below (Below.refl _ _) (Nat.le_refl _) (fun _ e => e.elim))
      have HSE := Lib.hid (show wD.heap.size ≤ wD.drew.heap.size from oE.size)
      have HSW := Lib.hid (show w.heap.size ≤ wD.drew.heap.size from (HWD.out.trans oE).size)
      obtain ⟨B, hB⟩ : ∃ q, q = wD.heap.size := ⟨_, rfl⟩
      rw [← hB] at HR1E HR3E HSE
      generalize wD.drew = wE at *
      clear HR1 HR3 B1 B2 B3 HWD HB k1 k2 k3 r1 r2 r3 r4 hB oE
      go_wp2_with fail
      go_loopw [16, 17, 18, 19] (fun v16 _ _ _ wr => ∃ i : Nat, v16 = .int .i64 i ∧ i ≤ M ∧ Only (fun _ => False) wE wr) (fun v16 _ _ _ _ => M - (intOf v16).toNat)
      case atStart => exact ⟨0, rfl, Nat.zero_le _, Only.refl _ _⟩
      case round =>
        obtain ⟨i, rfl, hi, how⟩ := hrel
        have HO := Lib.hid how
        clear how
        by_cases him : i < M
        · have hii : (i : Int) < (M : Int) := by omega
          have hk1 : wr.cell? ⟨p1, 0, none⟩ = some (Value.slice (some ⟨g3, 0, none⟩) (M + 1) d3) := (cellOf (HO.out.keeps B1E.out (fun e => e)) 0).trans rfl
          have hk2 : wr.cell? ⟨p2, 0, none⟩ = some (Value.slice (some ⟨g5, 0, none⟩) (M + 1 + 1) d5) := (cellOf (HO.out.keeps B2E.out (fun e => e)) 0).trans rfl
          have him' : i < m.length := HMM.out ▸ him
          obtain ⟨nd, hnd⟩ : ∃ nd, nd = m[i] := ⟨_, rfl⟩
          have hi1 : n1[i]? = some nd := by rw [HN1.out, List.getElem?_append_left him', List.getElem?_eq_getElem him', hnd]
          have hi2 : n2[i + 1]? = some (syn.upN nd) := by
            rw [HN2.out, List.getElem?_append_left (by simp; omega), List.getElem?_cons_succ, List.getElem?_map, List.getElem?_eq_getElem him', hnd]
            rfl
          obtain ⟨x1, x2, A9, c9, x3, x4⟩ := (HR1E.out.keep HSE.out HO.out (fun _ _ e => e)).node hi1
          have HKN := Lib.hid (HKS.out i nd hi1)
          obtain ⟨kd, hkd⟩ : ∃ q, q = nd.kind := ⟨_, rfl⟩
          obtain ⟨tx, htx⟩ : ∃ q, q = nd.text := ⟨_, rfl⟩
          obtain ⟨kl, hkl⟩ : ∃ q, q = nd.kids.length := ⟨_, rfl⟩
          have hkl2 : (syn.upN nd).kids.length = kl := by rw [hkl]; exact List.length_map ..
          rw [← hkd] at x1
          rw [← htx] at x2
          rw [← hkl] at x3
          have X4 := Lib.hid x4
          have HKL := Lib.hid hkl
          have HKL2 := Lib.hid hkl2
          have HI2 := Lib.hid hi2
          have HKD := Lib.hid hkd
          have HTX := Lib.hid htx
          clear x4 hkl hkl2 hkd htx hi1 hi2 hnd him'
          go_upto_region 22 with fail
          obtain ⟨ga, hga⟩ : ∃ q, q = wr.heap.size := ⟨_, rfl⟩
          obtain ⟨wa, hwa⟩ : ∃ q, q = wr.alloc (.cells #[.int .i64 kd, .string tx, .slice A9 kl c9] 33) := ⟨_, rfl⟩
          rw [← hwa, ← hga]
          have oa : Only (fun _ => False) wr wa := hwa ▸ (Only.refl _ wr).alloc _
          have ba : wa.heap[ga]? = some (.cells #[.int .i64 kd, .string tx, .slice A9 kl c9] 33 (0, 0)) := hwa ▸ hga ▸ heap_alloc_new wr _
          have OA := Lib.hid (HO.out.trans oa)
          have OWA := Lib.hid oa
          have BA := Lib.hid ba
          have HGA := Lib.hid hga
          clear hwa oa ba hga hk1 x1 x2 x3
          have hk2' : wa.cell? ⟨p2, 0, none⟩ = some (Value.slice (some ⟨g5, 0, none⟩) (M + 1 + 1) d5) := (cellOf (OA.out.keeps B2E.out (fun e => e)) 0).trans rfl
          obtain ⟨y1, y2, AA, cA, y3, y4⟩ := (HR3E.out.keep HSE.out OA.out (fun _ _ e => e)).node HI2.out
          rw [show (syn.upN nd).kind = nd.kind from rfl, ← HKD.out] at y1
          rw [show (syn.upN nd).text = nd.text from rfl, ← HTX.out] at y2
          rw [HKL2.out] at y3
          have Y4 := Lib.hid y4
          clear y4 hk2
          go_upto_region 23 with fail
          obtain ⟨gb, hgb⟩ : ∃ q, q = wa.heap.size := ⟨_, rfl⟩
          obtain ⟨wb, hwb⟩ : ∃ q, q = wa.alloc (.cells #[.int .i64 kd, .string tx, .slice AA kl cA] 33) := ⟨_, rfl⟩
          rw [← hwb, ← hgb]
          have ob : Only (fun _ => False) wa wb := hwb ▸ (Only.refl _ wa).alloc _
          have bb : wb.heap[gb]? = some (.cells #[.int .i64 kd, .string tx, .slice AA kl cA] 33 (0, 0)) := hwb ▸ hgb ▸ heap_alloc_new wa _
          have ba := ob.keeps BA.out (fun e => e)
          have z1 : wb.cell? ⟨ga, 0, none⟩ = some (.int .i64 kd) := (cellOf ba 0).trans rfl
          have z2 : wb.cell? ⟨ga, 1, none⟩ = some (.string tx) := (cellOf ba 1).trans rfl
          have z3 : wb.cell? ⟨ga, 2, none⟩ = some (.slice A9 kl c9) := (cellOf ba 2).trans rfl
          have v1 : wb.cell? ⟨gb, 0, none⟩ = some (.int .i64 kd) := (cellOf bb 0).trans rfl
          have v2 : wb.cell? ⟨gb, 1, none⟩ = some (.string tx) := (cellOf bb 1).trans rfl
          have v3 : wb.cell? ⟨gb, 2, none⟩ = some (.slice AA kl cA) := (cellOf bb 2).trans rfl
          have OB := Lib.hid (OA.out.trans ob)
          have OAB := Lib.hid ob
          have ORB := Lib.hid (OWA.out.trans ob)
          clear hwb ob hgb y1 y2 y3 hk2'
          have hkl4 : kl ≤ 1024 := by have h1 := HKN.out.1; have h2 := HKL.out; omega
          have BBA := Lib.hid (show wb.heap[ga]? = some (.cells #[.int .i64 kd, .string tx, .slice A9 kl c9] 33 (0, 0)) from ba)
          have BBB := Lib.hid bb
          clear bb ba
          go_wp2_with fail
          go_loopw [19] (fun v19 wq => ∃ k : Nat, v19 = .int .i64 k ∧ k ≤ kl ∧ Only (fun _ => False) wb wq) (fun v19 _ => kl - (intOf v19).toNat)
          case atStart => exact ⟨0, rfl, Nat.zero_le _, Only.refl _ _⟩
          case round =>
            obtain ⟨k, rfl, hk, hoq⟩ := hrel
            have z3 : wr.cell? ⟨ga, 2, none⟩ = some (.slice A9 kl c9) := (cellOf (hoq.keeps BBA.out (fun e => e)) 2).trans rfl
            have v3 : wr.cell? ⟨gb, 2, none⟩ = some (.slice AA kl cA) := (cellOf (hoq.keeps BBB.out (fun e => e)) 2).trans rfl
            have HOQ := Lib.hid hoq
            clear hoq
            by_cases hkk : k < kl
            · have hki : (k : Int) < (kl : Int) := by omega
              obtain ⟨g2, hA9, hg2, e2⟩ := X4.out k (HKL.out ▸ hkk)
              obtain ⟨g4, hAA, hg4, e4⟩ := Y4.out k (HKL2.out.symm ▸ hkk)
              subst hA9 hAA
              have hkn := HKN.out.2 k (HKL.out ▸ hkk)
              have hup : (syn.upN nd).kids.getD k 0 = nd.kids.getD k 0 + 1 := by
                have : k < nd.kids.length := HKL.out ▸ hkk
                show (nd.kids.map syn.up).getD k 0 = _
                rw [List.getD_eq_getElem?_getD, List.getD_eq_getElem?_getD, List.getElem?_map, List.getElem?_eq_getElem this]
                rfl
              rw [hup] at e4
              have hs1 := HGA.out
              obtain ⟨y, hy⟩ : ∃ q, q = nd.kids.getD k 0 := ⟨_, rfl⟩
              rw [← hy] at e2 e4 hkn
              have hB1 := HSE.out
              have hB2 := HO.out.size
              have hB3 := OA.out.size
              have c2 := ((ORB.out.trans HOQ.out).cell (p := ⟨g2, k, none⟩) (by show g2 < _; omega) (fun e => e)).trans e2
              have c4 := ((OAB.out.trans HOQ.out).cell (p := ⟨g4, k, none⟩) (by show g4 < _; omega) (fun e => e)).trans e4
              unfold natV at c2 c4
              rw [Int.natCast_add, Int.natCast_one] at c4
              have HOD := Lib.hid HOQ.out.drew
              clear e2 e4 hy hup hs1 hB1 hB2 hB3
              go_upto_region 28 with fail
              go_region
              go_wp2_with fail
              go_roundw
              case rel => exact ⟨k + 1, by go_num, by omega, HOD.out⟩
              case measure => first | (simp only [intOf]; omega) | (go_simp; omega) | omega
            · have hki : ¬ (k : Int) < (kl : Int) := by omega
              have HOF := Lib.hid (OB.out.trans HOQ.out)
              go_wp2_with fail
              go_roundw
              case rel => exact ⟨i + 1, by go_num, by omega, HOF.out⟩
              case measure => first | (simp only [intOf]; omega) | (go_simp; omega) | omega
        · have hii : ¬ (i : Int) < (M : Int) := by omega
          have HBF := Lib.hid (HO.out.below HBE.out HSW.out (fun _ e => e.elim))
          go_wp2_with fail
          exact ⟨rfl, _, by simp [results, Try.results5, go_sem], rfl, HBF.out⟩
end Go.Proofs.Ytoggcdldoinbnaa
