/- What the laws ask of the parser's trees. -/
import Derived.Test.YtoggcdldoinbnaaSynR
namespace Go.Proofs.Ytoggcdldoinbnaa.syn
set_option linter.unusedVariables false

mutual
theorem Fo.start_unique {N : List Nd} {i i' j : Nat} {xs : List Nat} : Fo N i j xs → Fo N i' j xs → i = i'
  | .nil i, h => by
    rcases h.cases' with ⟨e, _⟩ | ⟨_, _, _, _, e, _⟩
    · exact e.symm
    · simp at e
  | .snoc (j := m) (x := x) (xs := ys) a t, h => by
    rcases h.cases' with ⟨_, e⟩ | ⟨m', y, zs, e1, e2, a', t'⟩
    · simp at e
    · have e3 := List.append_inj' e2 rfl
      obtain ⟨e3, e4⟩ := e3
      subst e3
      simp at e4
      subst e4
      have := t.start_unique t'
      subst this
      exact a.start_unique a'
theorem Tr.start_unique {N : List Nd} {j j' x : Nat} : Tr N j x → Tr N j' x → j = j'
  | .mk h f, .mk h' f' => by
    rw [h] at h'
    cases h'
    exact f.start_unique f'
end
mutual
theorem Fo.upTo {N : List Nd} {i j : Nat} {xs : List Nat} : Fo N i j xs → ∀ m, i ≤ m → m ≤ j → ∃ zs, Fo N i m zs
  | .nil i, m, h1, h2 => ⟨[], by rw [show m = i by omega]; exact .nil i⟩
  | .snoc (j := q) (x := x) (xs := ys) a t, m, h1, h2 => by
    rcases Nat.lt_or_ge m q with h3 | h3
    · exact a.upTo m h1 (by omega)
    · rcases Nat.lt_or_ge x m with h4 | h4
      · rw [show m = x + 1 by omega]
        exact ⟨_, .snoc a t⟩
      · obtain ⟨zs, hz⟩ := t.upTo m h3 h4
        exact ⟨_, a.append _ _ _ rfl hz⟩
theorem Tr.upTo {N : List Nd} {j x : Nat} : Tr N j x → ∀ m, j ≤ m → m ≤ x → ∃ zs, Fo N j m zs
  | .mk h f, m, h1, h2 => f.upTo m h1 h2
end
mutual
theorem Fo.each {N : List Nd} {i j : Nat} {xs : List Nat} : Fo N i j xs → ∀ m, i ≤ m → m < j → ∃ q, i ≤ q ∧ Tr N q m
  | .nil i, m, h1, h2 => by omega
  | .snoc (j := q) (x := x) (xs := ys) a t, m, h1, h2 => by
    rcases Nat.lt_or_ge m q with h3 | h3
    · exact a.each m h1 h3
    · obtain ⟨z, hz, ht⟩ := t.each m h3 (by omega)
      exact ⟨z, Nat.le_trans a.le hz, ht⟩
theorem Tr.each {N : List Nd} {j x : Nat} : Tr N j x → ∀ m, j ≤ m → m ≤ x → ∃ q, j ≤ q ∧ Tr N q m
  | .mk h f, m, h1, h2 => by
    rcases Nat.lt_or_ge m x with h3 | h3
    · exact f.each m h1 h3
    · have : m = x := by omega
      subst this
      exact ⟨j, Nat.le_refl _, .mk h f⟩
end
theorem Fo.roots_unique {N : List Nd} : ∀ (n j : Nat), j ≤ n → ∀ {xs ys : List Nat}, Fo N 0 j xs → Fo N 0 j ys → xs = ys
  | n, j, hn, xs, ys, h, g => by
    rcases h.cases' with ⟨e, rfl⟩ | ⟨m, x, xs', rfl, rfl, a, t⟩
    · rcases g.cases' with ⟨_, rfl⟩ | ⟨m', y, ys', e1, _⟩
      · rfl
      · omega
    · rcases g.cases' with ⟨e, _⟩ | ⟨m', y, ys', e1, rfl, a', t'⟩
      · omega
      · have : y = x := by omega
        subst this
        have := t.start_unique t'
        subst this
        have hm := t.le
        cases n with
        | zero => omega
        | succ n => rw [Fo.roots_unique n m (by omega) a a']
theorem Fo.range {N : List Nd} : ∀ (n i j : Nat) (xs : List Nat), xs.length = n → Fo N i j xs → ∀ x ∈ xs, i ≤ x ∧ x < j
  | 0, i, j, xs, hn, h, x, hx => by rw [List.length_eq_zero_iff.1 hn] at hx; cases hx
  | n + 1, i, j, xs, hn, h, x, hx => by
    rcases h.cases' with ⟨_, rfl⟩ | ⟨m, y, ys, rfl, rfl, a, t⟩
    · cases hx
    · rcases List.mem_append.1 hx with h1 | h1
      · have := Fo.range n i m ys (by simpa using hn) a x h1
        have := t.le
        omega
      · simp at h1
        subst h1
        have := a.le
        have := t.le
        omega
theorem Fo.distinct {N : List Nd} : ∀ (n i j : Nat) (xs : List Nat), xs.length = n → Fo N i j xs → ∀ k, k < xs.length → xs.getD k 0 ∉ xs.take k
  | 0, i, j, xs, hn, h, k, hk => by omega
  | n + 1, i, j, xs, hn, h, k, hk => by
    rcases h.cases' with ⟨_, rfl⟩ | ⟨m, y, ys, rfl, rfl, a, t⟩
    · simp at hk
    · have hl : ys.length = n := by simpa using hn
      rcases Nat.lt_or_ge k ys.length with h1 | h1
      · rw [List.take_append_of_le_length (by omega), List.getD_eq_getElem?_getD, List.getElem?_append_left h1, ← List.getD_eq_getElem?_getD]
        exact Fo.distinct n i m ys hl a k h1
      · have hke : k = ys.length := by simp at hk; omega
        subst hke
        rw [List.take_left, List.getD_eq_getElem?_getD, List.getElem?_append_right (Nat.le_refl _), Nat.sub_self]
        intro hin
        have h2 := Fo.range n i m ys hl a y (by simpa using hin)
        have := t.le
        omega

/-- The law's two tables ahead of the i-th node. -/
structure Tabs (N : List Nd) (i : Nat) (bl fr : List Nat) : Prop where
  blen : bl.length = N.length
  flen : fr.length = N.length
  root : ∃ R, Fo N 0 i R ∧ ∀ m, m < N.length → bl.getD m 0 = if m < i ∧ m ∉ R then 1 else 0
  start : ∀ m, m < i → Tr N (fr.getD m 0) m
theorem Tabs.begin (N : List Nd) : Tabs N 0 (List.replicate N.length 0) (List.replicate N.length 0) := by
  refine ⟨by simp, by simp, ⟨[], .nil 0, fun m hm => ?_⟩, fun m hm => by omega⟩
  rw [if_neg (by omega), List.getD_eq_getElem?_getD, List.getElem?_replicate]
  split <;> rfl
/-- The i-th node: what is below it. -/
theorem Tabs.node {N : List Nd} {x i : Nat} {bl fr : List Nat} (h : Tabs N i bl fr) (t : Tr N 0 x) (hx : N.length = x + 1) (hi : i < N.length) :
    ∃ nd q, N[i]? = some nd ∧ Fo N q i nd.kids ∧ Tr N q i := by
  obtain ⟨q, -, tq⟩ := t.each i (Nat.zero_le _) (by omega)
  cases tq with
  | mk h f => exact ⟨_, _, h, f, .mk h f⟩
/-- Once its children are counted. -/
theorem Tabs.next {N : List Nd} {i q : Nat} {bl fr bl' : List Nat} {nd : Nd} (h : Tabs N i bl fr) (hn : N[i]? = some nd) (f : Fo N q i nd.kids) (hb : bl'.length = bl.length) (hc : ∀ m, bl'.getD m 0 = bl.getD m 0 + if m ∈ nd.kids then 1 else 0) :
    Tabs N (i + 1) bl' (fr.set i q) := by
  obtain ⟨R, hR, hbl⟩ := h.root
  have hi : i < N.length := by
    rcases Nat.lt_or_ge i N.length with h1 | h1
    · exact h1
    · rw [List.getElem?_eq_none h1] at hn; cases hn
  obtain ⟨Rq, hRq⟩ := hR.upTo q (Nat.zero_le _) f.le
  have hRe := Fo.roots_unique i i (Nat.le_refl _) hR (hRq.append _ _ _ rfl f)
  subst hRe
  refine ⟨hb.trans h.blen, by simp [h.flen], ⟨Rq ++ [i], .snoc hRq (.mk hn f), fun m hm => ?_⟩, fun m hm => ?_⟩
  · rw [hc, hbl m hm]
    have hq := Fo.range _ _ _ _ rfl hRq m
    have hk := Fo.range _ _ _ _ rfl f m
    have hfl := f.le
    by_cases h1 : m ∈ nd.kids
    · have h2 : m ∉ Rq := fun e => by have := hq e; have := hk h1; omega
      have h3 := hk h1
      rw [if_pos h1, if_neg (by simp [h1]), if_pos ⟨by omega, by simp [h2]; omega⟩]
    · rw [if_neg h1, Nat.add_zero]
      by_cases h2 : m ∈ Rq
      · rw [if_neg (by simp [h2]), if_neg (by simp [h2])]
      · by_cases h3 : m < i
        · rw [if_pos ⟨h3, by simp [h1, h2]⟩, if_pos ⟨by omega, by simp [h2]; omega⟩]
        · rw [if_neg (by omega)]
          by_cases h4 : m = i
          · subst h4; rw [if_neg (by simp)]
          · rw [if_neg (by omega)]
  · by_cases h1 : m = i
    · subst h1
      rw [List.getD_eq_getElem?_getD, List.getElem?_set_self (by rw [h.flen]; exact hi)]
      exact .mk hn f
    · rw [List.getD_eq_getElem?_getD, List.getElem?_set_ne (fun e => h1 e.symm), ← List.getD_eq_getElem?_getD]
      exact h.start m (by omega)
/-- At the end: each node but the last is below just one. -/
theorem Tabs.fin {N : List Nd} {x : Nat} {bl fr : List Nat} (h : Tabs N N.length bl fr) (t : Tr N 0 x) (hx : N.length = x + 1) :
    (∀ m, m < x → bl.getD m 0 = 1) ∧ bl.getD x 0 = 0 ∧ fr.getD x 0 = 0 := by
  obtain ⟨R, hR, hbl⟩ := h.root
  have h1 : R = [x] := Fo.roots_unique (N.length) (N.length) (Nat.le_refl _) hR (by rw [hx]; exact Fo.one t)
  subst h1
  refine ⟨fun m hm => ?_, ?_, ?_⟩
  · rw [hbl m (by omega), if_pos ⟨by omega, by simp; omega⟩]
  · rw [hbl x (by omega), if_neg (by simp)]
  · exact (h.start x (by omega)).start_unique t

theorem most_gt (c : Nat) : ∀ (l : List Nat) (m : Nat), c < l.foldl max m ↔ c < m ∨ ∃ x ∈ l, c < x
  | [], m => by simp
  | x :: l, m => by
    rw [List.foldl_cons, most_gt c l]
    constructor
    · rintro (h | ⟨y, hy, h⟩)
      · rcases Nat.lt_or_ge c m with h1 | h1
        · exact .inl h1
        · exact .inr ⟨x, by simp, by omega⟩
      · exact .inr ⟨y, by simp [hy], h⟩
    · rintro (h | ⟨y, hy, h⟩)
      · exact .inl (by omega)
      · rcases List.mem_cons.1 hy with rfl | hy
        · exact .inl (by omega)
        · exact .inr ⟨y, hy, h⟩
theorem depth_gt (c : Nat) (g : Nat → Nat) : ∀ (l : List Nat) (m : Nat), c < l.foldl (fun m k => max m (g k)) m ↔ c < m ∨ ∃ k ∈ l, c < g k
  | [], m => by simp
  | x :: l, m => by
    rw [List.foldl_cons, depth_gt c g l]
    constructor
    · rintro (h | ⟨y, hy, h⟩)
      · rcases Nat.lt_or_ge c m with h1 | h1
        · exact .inl h1
        · exact .inr ⟨x, by simp, by omega⟩
      · exact .inr ⟨y, by simp [hy], h⟩
    · rintro (h | ⟨y, hy, h⟩)
      · exact .inl (by omega)
      · rcases List.mem_cons.1 hy with rfl | hy
        · exact .inl (by omega)
        · exact .inr ⟨y, hy, h⟩
def inclW : Tok := (1, ⟨#[105, 110, 99, 108, 117, 100, 101]⟩)
def abW : Tok := (1, ⟨#[97, 58, 58, 98]⟩)
def inclN : Nd := ⟨5, ⟨#[97, 58, 58, 98]⟩, []⟩
theorem include_first {K k : Nat} (l : List Tok) : statement K (k + 1) (inclW :: abW :: l) start = .ok 0 (shift inclN start) := by
  have h1 : next (inclW :: abW :: l) start = inclW := rfl
  have n1 : is 1 (⟨#[99, 108, 97, 115, 115]⟩ : ByteArray) inclW = false := by decide +kernel
  have n2 : is 1 (⟨#[100, 101, 102, 105, 110, 101]⟩ : ByteArray) inclW = false := by decide +kernel
  have n3 : is 1 (⟨#[105, 110, 99, 108, 117, 100, 101]⟩ : ByteArray) inclW = true := by decide +kernel
  have n4 : Lib.containsS keywords abW.2 = false := by decide +kernel
  have h2 : next (inclW :: abW :: l) ⟨1, [], []⟩ = abW := rfl
  unfold statement may Pr.bind acc
  simp only [h1, n1, n2, n3, Pr.pure, if_true, Bool.false_eq_true, if_false, Option.isSome]
  unfold name any Pr.bind peek acc
  simp only [start, Nat.zero_add, h2, n4, Bool.false_eq_true, if_false]
  rfl
theorem most_shift (d L : List Nat) : 32 < most (1 :: d ++ [depthOf (1 :: d) ([0] ++ L.map up)]) ↔ 32 < most (d ++ [depthOf d L]) := by
  unfold most
  rw [most_gt, most_gt]
  have hd : 32 < depthOf (1 :: d) ([0] ++ L.map up) ↔ 32 < depthOf d L := by
    unfold depthOf
    rw [depth_gt 32 (fun k => (1 :: d).getD k 0 + 1), depth_gt 32 (fun k => d.getD k 0 + 1)]
    constructor
    · rintro (h | ⟨k, hk, h⟩)
      · omega
      · simp at hk
        rcases hk with rfl | ⟨k', hk', rfl⟩
        · simp at h
        · exact .inr ⟨k', hk', by simpa [up] using h⟩
    · rintro (h | ⟨k, hk, h⟩)
      · omega
      · exact .inr ⟨up k, by simp; exact .inr ⟨k, hk, rfl⟩, by simpa [up] using h⟩
  constructor
  · rintro (h | ⟨x, hx, h⟩)
    · omega
    · simp at hx
      rcases hx with rfl | hx | rfl
      · omega
      · exact .inr ⟨x, by simp [hx], h⟩
      · exact .inr ⟨_, by simp, hd.1 (by simpa using h)⟩
  · rintro (h | ⟨x, hx, h⟩)
    · omega
    · simp at hx
      rcases hx with hx | rfl
      · exact .inr ⟨x, by simp [hx], h⟩
      · exact .inr ⟨depthOf (1 :: d) ([0] ++ L.map up), by simp, hd.2 h⟩
/-- A manifest behind an include. -/
theorem all_joined (K F : Nat) (l : List Tok) : match all (K + 1) F l start with
    | .bad a => all (K + 1) (F + 1) (inclW :: abW :: l) start = .bad (a + 2)
    | .ok _ s => ∃ s' m L, all (K + 1) (F + 1) (inclW :: abW :: l) start = .ok (s.n.length) s' ∧ s.n = m ++ [⟨1, (⟨#[]⟩ : ByteArray), L⟩] ∧ s'.n = inclN :: m.map upN ++ [⟨1, (⟨#[]⟩ : ByteArray), [0] ++ L.map up⟩] ∧ (32 < most s'.d ↔ 32 < most s.d) := by
  have hg := SR.gatherGo (u := inclW) (v := abW) (inc := inclN) (K + 1) F [] l start
  have h0 : all (K + 1) (F + 1) (inclW :: abW :: l) start = ((gatherGo (K + 1) F [0]).bind fun l => node 1 (⟨#[]⟩ : ByteArray) l) (inclW :: abW :: l) (shift inclN start) := by
    have h1 : gatherGo (K + 1) (F + 1) [] (inclW :: abW :: l) start = gatherGo (K + 1) F [0] (inclW :: abW :: l) (shift inclN start) := by
      rw [gatherGo]
      unfold Pr.bind
      rw [show atEnd (inclW :: abW :: l) start = .ok false start from by unfold atEnd start; simp]
      simp only [Bool.false_eq_true, if_false, include_first, List.nil_append]
    unfold all Pr.bind
    rw [h1]
  rw [h0]
  rw [show ([0] ++ ([] : List Nat).map up) = [0] from rfl] at hg
  unfold all Pr.bind
  rw [hg]
  cases e : gatherGo (K + 1) F [] l start with
  | bad a => rfl
  | ok L s =>
    refine ⟨⟨s.at_ + 2, (inclN :: s.n.map upN) ++ [⟨1, (⟨#[]⟩ : ByteArray), [0] ++ L.map up⟩], (1 :: s.d) ++ [depthOf (1 :: s.d) ([0] ++ L.map up)]⟩, s.n, L, ?_, rfl, rfl, most_shift s.d L⟩
    unfold Res.on node shift
    simp
end Go.Proofs.Ytoggcdldoinbnaa.syn
