/- The parser's tree: in the order in which they end. -/
import Derived.Test.YtoggcdldoinbnaaSynP
namespace Go.Proofs.Ytoggcdldoinbnaa.syn
set_option linter.unusedVariables false

mutual
/-- The nodes from i up to j are trees side by side, with these roots. -/
inductive Fo (N : List Nd) : Nat → Nat → List Nat → Prop
  | nil (i : Nat) : Fo N i i []
  | snoc {i j x : Nat} {xs : List Nat} : Fo N i j xs → Tr N j x → Fo N i (x + 1) (xs ++ [x])
/-- Those from j up to x are one tree. -/
inductive Tr (N : List Nd) : Nat → Nat → Prop
  | mk {j x : Nat} {nd : Nd} : N[x]? = some nd → Fo N j x nd.kids → Tr N j x
end

mutual
theorem Fo.more {N : List Nd} {i j : Nat} {xs : List Nat} (M : List Nd) : Fo N i j xs → Fo (N ++ M) i j xs
  | .nil i => .nil i
  | .snoc h t => .snoc (h.more M) (t.more M)
theorem Tr.more {N : List Nd} {j x : Nat} (M : List Nd) : Tr N j x → Tr (N ++ M) j x
  | .mk h f => .mk (by rw [List.getElem?_append_left (by rcases Nat.lt_or_ge x N.length with h1 | h1; exact h1; rw [List.getElem?_eq_none h1] at h; cases h)]; exact h) (f.more M)
end
mutual
theorem Fo.le {N : List Nd} {i j : Nat} {xs : List Nat} : Fo N i j xs → i ≤ j
  | .nil i => Nat.le_refl _
  | .snoc h t => Nat.le_trans h.le (Nat.le_trans t.le (Nat.le_succ _))
theorem Tr.le {N : List Nd} {j x : Nat} : Tr N j x → j ≤ x
  | .mk h f => f.le
end
theorem Fo.one {N : List Nd} {j x : Nat} (t : Tr N j x) : Fo N j (x + 1) [x] := .snoc (.nil j) t
/-- A forest's shape, told apart. -/
theorem Fo.cases' {N : List Nd} {i j : Nat} {xs : List Nat} (h : Fo N i j xs) : (i = j ∧ xs = []) ∨ ∃ m x ys, j = x + 1 ∧ xs = ys ++ [x] ∧ Fo N i m ys ∧ Tr N m x := by
  cases h with
  | nil => exact .inl ⟨rfl, rfl⟩
  | snoc a t => exact .inr ⟨_, _, _, rfl, rfl, a, t⟩
theorem Fo.append {N : List Nd} {i j : Nat} {xs : List Nat} (h : Fo N i j xs) : ∀ (n k : Nat) (ys : List Nat), ys.length = n → Fo N j k ys → Fo N i k (xs ++ ys)
  | 0, k, ys, hn, g => by
    have : ys = [] := List.length_eq_zero_iff.1 hn
    subst this
    rcases g.cases' with ⟨rfl, _⟩ | ⟨m, x, zs, _, e, _⟩
    · simpa using h
    · simp at e
  | n + 1, k, ys, hn, g => by
    rcases g.cases' with ⟨_, rfl⟩ | ⟨m, x, zs, rfl, rfl, a, t⟩
    · simp at hn
    · have := Fo.append h n m zs (by simpa using hn) a
      rw [← List.append_assoc]
      exact .snoc this t

/-- The nodes behind N0 are trees with these roots. -/
def At (N0 : List Nd) (xs : List Nat) (s : PS) : Prop := (∃ M, s.n = N0 ++ M) ∧ Fo s.n N0.length s.n.length xs
/-- Behind trees with the roots xs it leaves trees with those roots. -/
def Makes {α : Type} (xs : List Nat) (p : Pr α) (g : α → List Nat) : Prop := ∀ l s N0, At N0 xs s → ∀ a s', p l s = .ok a s' → At N0 (g a) s'
section
variable {α β : Type} {p : Pr α} {f : α → Pr β} {xs : List Nat} {g : α → List Nat} {h : β → List Nat}
theorem Makes.bind (hp : Makes xs p g) (hf : ∀ a, Makes (g a) (f a) h) : Makes xs (p.bind f) h := by
  intro l s N0 hat a s' e
  unfold Pr.bind at e
  cases e1 : p l s with
  | bad b => rw [e1] at e; cases e
  | ok b s1 =>
    rw [e1] at e
    exact hf b l s1 N0 (hp l s N0 hat b s1 e1) a s' e
theorem Makes.pure (a : α) : Makes (g a) (Pr.pure a) g := by
  intro l s N0 hat b s' e
  cases e
  exact hat
theorem Makes.fail : Makes xs (fail : Pr α) g := by
  intro l s N0 hat b s' e
  cases e
theorem Makes.ite {c : Prop} [Decidable c] {p q : Pr α} (hp : Makes xs p g) (hq : Makes xs q g) : Makes xs (if c then p else q) g := by
  split
  · exact hp
  · exact hq
theorem Makes.frame (hp : Makes [] p g) (xs : List Nat) : Makes xs p (fun a => xs ++ g a) := by
  intro l s N0 hat a s' e
  obtain ⟨⟨M, hM⟩, hf⟩ := hat
  obtain ⟨⟨M', hM'⟩, hf'⟩ := hp l s s.n ⟨⟨[], by simp⟩, .nil _⟩ a s' e
  refine ⟨⟨M ++ M', by rw [hM', hM, List.append_assoc]⟩, ?_⟩
  rw [hM'] at hf' ⊢
  exact (hf.more M').append _ _ _ rfl hf'
end
/-- Nothing is made. -/
def Still {α : Type} (p : Pr α) : Prop := ∀ l s a s', p l s = .ok a s' → s'.n = s.n
theorem Still.makes {α : Type} {p : Pr α} (h : Still p) (xs : List Nat) : Makes xs p (fun _ => xs) := by
  intro l s N0 hat a s' e
  have := h l s a s' e
  unfold At
  rw [this]
  exact hat
theorem Still.bind {α β : Type} {p : Pr α} {f : α → Pr β} (hp : Still p) (hf : ∀ a, Still (f a)) : Still (p.bind f) := by
  intro l s a s' e
  unfold Pr.bind at e
  cases e1 : p l s with
  | bad b => rw [e1] at e; cases e
  | ok b s1 =>
    rw [e1] at e
    exact (hf b l s1 a s' e).trans (hp l s b s1 e1)
theorem Still.pure {α : Type} (a : α) : Still (Pr.pure a) := by intro l s b s' e; cases e; rfl
theorem Still.fail {α : Type} : Still (fail : Pr α) := by intro l s b s' e; cases e
theorem Still.peek : Still peek := by intro l s b s' e; cases e; rfl
theorem Still.atEnd : Still atEnd := by intro l s b s' e; cases e; rfl
theorem Still.acc (q : Tok → Bool) : Still (acc q) := by
  intro l s b s' e
  unfold syn.acc at e
  split at e <;> (cases e; rfl)
theorem Still.ite {α : Type} {c : Prop} [Decidable c] {p q : Pr α} (hp : Still p) (hq : Still q) : Still (if c then p else q) := by
  split
  · exact hp
  · exact hq
theorem Still.may (k : Int) (t : ByteArray) : Still (may k t) := (Still.acc _).bind fun _ => Still.pure _
theorem Still.must (t : ByteArray) : Still (must t) := (Still.may 7 t).bind fun _ => Still.ite (Still.pure _) Still.fail
theorem Still.any (k : Int) : Still (any k) := (Still.acc _).bind fun r => by
  cases r
  · exact Still.fail
  · exact Still.pure _
theorem Still.name : Still name := Still.peek.bind fun _ => Still.ite Still.fail (Still.any 1)
theorem Makes.node (kind : Int) (text : ByteArray) (kids : List Nat) : Makes kids (node kind text kids) (fun x => [x]) := by
  intro l s N0 hat a s' e
  obtain ⟨⟨M, hM⟩, hf⟩ := hat
  cases e
  refine ⟨⟨M ++ [⟨kind, text, kids⟩], by simp [hM]⟩, ?_⟩
  simp only [List.length_append, List.length_cons, List.length_nil]
  refine Fo.one (.mk (nd := ⟨kind, text, kids⟩) ?_ (hf.more _))
  rw [List.getElem?_append_right (Nat.le_refl _), Nat.sub_self]
  rfl
abbrev one : Nat → List Nat := fun x => [x]
/-- What makes nothing, then the rest. -/
theorem Still.then {α β : Type} {p : Pr α} {f : α → Pr β} {xs : List Nat} {h : β → List Nat} (hp : Still p) (hf : ∀ a, Makes xs (f a) h) : Makes xs (p.bind f) h := (hp.makes xs).bind hf
theorem Makes.leftGo {part : Pr Nat} (hp : Makes [] part one) (k : Int) (ops : List ByteArray) : ∀ f x, Makes [x] (leftGo part k ops f x) one
  | 0, _ => Makes.fail
  | f + 1, x => (Still.acc _).then fun r => by
    cases r
    · exact Makes.pure (g := one) x
    · exact (hp.frame [x]).bind fun y => (Makes.node 19 _ [x, y]).bind fun z => Makes.leftGo hp k ops f z
theorem Makes.left {part : Pr Nat} (hp : Makes [] part one) (k : Int) (ops : List ByteArray) (K : Nat) : Makes [] (left K part k ops) one := hp.bind fun x => Makes.leftGo hp k ops K x
theorem Makes.valueOf {p : Pr Nat} (hp : Makes [] p one) (K : Nat) : Makes [] (valueOf K p) one := ((hp.left _ _ K).left _ _ K).left _ _ K
theorem Makes.plain (K : Nat) : ∀ k, Makes [] (plain K k) one
  | 0 => Makes.fail
  | k + 1 => (Still.may _ _).then fun _ => Makes.ite ((Makes.plain K k).bind fun x => Makes.node 20 _ [x]) <|
    (Still.may _ _).then fun _ => Makes.ite (((Makes.plain K k).valueOf K).bind fun x => (Still.must _).then fun _ => Makes.pure (g := one) x) <|
    (Still.may _ _).then fun _ => Makes.ite (Makes.node _ _ []) <| (Still.may _ _).then fun _ => Makes.ite (Makes.node _ _ []) <|
    Still.peek.then fun w => by
      cases e : kindOf w.1
      · exact Makes.fail
      · exact (Still.acc _).then fun r => by
          cases r
          · exact Makes.fail
          · exact Makes.node _ _ []
theorem Makes.value (K : Nat) : Makes [] (value K) one := (Makes.plain K K).valueOf K
theorem Makes.rowGo {p : Pr Nat} (h : Makes [] p one) (fin : ByteArray) : ∀ k l, Makes l (rowGo p fin k l) id
  | 0, _ => Makes.fail
  | k + 1, l => (h.frame l).bind fun x => (Still.may _ _).then fun _ => Makes.ite (Makes.rowGo h fin k _) ((Still.must _).then fun _ => Makes.pure (g := id) _)
theorem Makes.row {p : Pr Nat} (h : Makes [] p one) (fin : ByteArray) (K : Nat) : Makes [] (row K p fin) id := (Still.may _ _).then fun _ => Makes.ite (Makes.pure (g := id) []) (Makes.rowGo h fin K [])
theorem Makes.param (K : Nat) : Makes [] (param K) one := (Still.any _).then fun _ => (Still.may _ _).then fun _ => Makes.ite ((Makes.value K).bind fun x => Makes.node _ _ [x]) (Makes.node _ _ [])
theorem Makes.attr (K : Nat) : Makes [] (attr K) one := Still.peek.then fun _ => Makes.ite Makes.fail ((Still.any _).then fun _ => (Still.must _).then fun _ => (Makes.value K).bind fun x => Makes.node _ _ [x])
theorem Makes.blockGo {st : Pr Nat} (h : Makes [] st one) : ∀ k l, Makes l (blockGo st k l) one
  | 0, _ => Makes.fail
  | k + 1, l => (Still.may _ _).then fun _ => Makes.ite (Makes.node _ _ l) ((h.frame l).bind fun x => Makes.blockGo h k _)
theorem Makes.block {st : Pr Nat} (h : Makes [] st one) (K : Nat) : Makes [] (block K st) one := (Still.must _).then fun _ => Makes.blockGo h K []
theorem Makes.ref (K : Nat) : Makes [] (ref K) one := (Still.any _).then fun _ => (Still.must _).then fun _ => (Makes.value K).bind fun x => (Still.must _).then fun _ => Makes.node _ _ [x]
theorem Makes.chainGo (K : Nat) : ∀ k l, Makes l (chainGo K k l) one
  | 0, _ => Makes.fail
  | k + 1, l => (Still.acc _).then fun r => by
    cases r
    · exact Makes.node _ _ l
    · exact ((Makes.node 12 _ []).frame l).bind fun a => ((Makes.ref K).frame (l ++ [a])).bind fun b => Makes.chainGo K k _
theorem Makes.chain (K : Nat) : Makes [] (chain K) one := (Makes.ref K).bind fun x => Still.peek.then fun _ => Makes.ite (Makes.chainGo K K [x]) Makes.fail
theorem Makes.made {st : Pr Nat} (h : Makes [] st one) (K : Nat) (kd : Int) : Makes [] (made K st kd) one := Still.name.then fun _ => (Still.may _ _).then fun _ =>
  (Makes.ite ((Makes.param K).row _ K) (Makes.pure (g := id) [])).bind fun l => ((h.block K).frame l).bind fun x => Makes.node kd _ (l ++ [x])
theorem Makes.simple (K : Nat) : Makes [] (simple K) one := Still.peek.then fun w => Makes.ite ((Still.any _).then fun _ => (Still.must _).then fun _ => (Makes.value K).bind fun x => Makes.node _ _ [x]) <| Makes.ite (Makes.chain K) <|
  Still.name.then fun _ => (Still.must _).then fun _ => (Makes.value K).bind fun x => (Still.must _).then fun _ => (((Makes.attr K).row _ K).frame [x]).bind fun l => Makes.node _ _ ([x] ++ l)
theorem Makes.statement (K : Nat) : ∀ k, Makes [] (statement K k) one
  | 0 => Makes.fail
  | k + 1 => (Still.may _ _).then fun _ => Makes.ite ((Makes.statement K k).made K 2) <| (Still.may _ _).then fun _ => Makes.ite ((Makes.statement K k).made K 3) <|
    (Still.may _ _).then fun _ => Makes.ite (Still.name.then fun _ => Makes.node _ _ []) <| (Still.may _ _).then fun _ => Makes.ite ((Makes.value K).bind fun x => (((Makes.statement K k).block K).frame [x]).bind fun y =>
      (Still.may _ _).then fun _ => Makes.ite ((((Makes.statement K k).block K).frame [x, y]).bind fun z => Makes.node 7 _ [x, y, z]) (Makes.node 7 _ [x, y])) <| Makes.simple K
theorem Makes.gatherGo (K : Nat) : ∀ k l, Makes l (gatherGo K k l) id
  | 0, _ => Makes.fail
  | k + 1, l => Still.atEnd.then fun _ => Makes.ite (Makes.pure (g := id) l) (((Makes.statement K K).frame l).bind fun x => Makes.gatherGo K k _)
theorem Makes.all (K F : Nat) : Makes [] (all K F) one := (Makes.gatherGo K F []).bind fun l => Makes.node _ _ l

/-- The tree that all makes. -/
theorem all_tree {K F : Nat} {l : List Tok} {x : Nat} {s : PS} (h : all K F l start = .ok x s) : s.n.length = x + 1 ∧ Tr s.n 0 x := by
  obtain ⟨-, hf⟩ := Makes.all K F l start [] ⟨⟨[], rfl⟩, .nil _⟩ x s h
  rcases hf.cases' with ⟨_, e⟩ | ⟨m, y, ys, h1, h2, a, t⟩
  · cases e
  · have hys : ys = [] ∧ x = y := by
      cases ys with
      | nil => simpa using h2
      | cons z zs => simp at h2
    obtain ⟨rfl, rfl⟩ := hys
    rcases a.cases' with ⟨e, _⟩ | ⟨_, _, _, _, e, _⟩
    · simp only [List.length_nil] at e
      subst e
      exact ⟨h1, t⟩
    · simp at e
end Go.Proofs.Ytoggcdldoinbnaa.syn
