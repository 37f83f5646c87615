/- How many nodes the parser makes of how many words. -/
import Derived.Test.YtoggcdldoinbnaaSynT
namespace Go.Proofs.Ytoggcdldoinbnaa.syn
set_option linter.unusedVariables false

def Costs {α : Type} (p : Pr α) (g : α → Int) : Prop := ∀ l s a s', p l s = .ok a s' → s.at_ ≤ s'.at_ ∧ s.n.length ≤ s'.n.length ∧ (s'.n.length : Int) + g a ≤ s.n.length + 2 * ((s'.at_ : Int) - s.at_)
section
variable {α β : Type} {p : Pr α} {f : α → Pr β} {g : α → Int} {h : β → Int}
theorem Costs.bind (hp : Costs p g) (hf : ∀ a, Costs (f a) (fun b => h b - g a)) : Costs (p.bind f) h := by
  intro l s a s' e
  unfold Pr.bind at e
  cases e1 : p l s with
  | bad b => rw [e1] at e; cases e
  | ok b s1 =>
    rw [e1] at e
    have h1 := hp l s b s1 e1
    have h2 := hf b l s1 a s' e
    simp only at h2
    omega
theorem Costs.less (hp : Costs p g) {g' : α → Int} (hg : ∀ a, g' a ≤ g a) : Costs p g' := by
  intro l s a s' e
  have h1 := hp l s a s' e
  have := hg a
  omega
theorem Costs.pure (a : α) (h : g a ≤ 0) : Costs (Pr.pure a) g := by
  intro l s b s' e
  cases e
  omega
theorem Costs.fail : Costs (fail : Pr α) g := by intro l s b s' e; cases e
theorem Costs.ite {c : Prop} [Decidable c] {p q : Pr α} (hp : c → Costs p g) (hq : ¬ c → Costs q g) : Costs (if c then p else q) g := by
  split
  · rename_i h; exact hp h
  · rename_i h; exact hq h
end
theorem Costs.peek : Costs peek (fun _ => 0) := by intro l s b s' e; cases e; exact ⟨Nat.le_refl _, Nat.le_refl _, by simp⟩
theorem Costs.atEnd : Costs atEnd (fun _ => 0) := by intro l s b s' e; cases e; exact ⟨Nat.le_refl _, Nat.le_refl _, by simp⟩
theorem Costs.acc (q : Tok → Bool) : Costs (acc q) (fun r => if r.isSome = true then 2 else 0) := by
  intro l s b s' e
  unfold syn.acc at e
  split at e
  · cases e; simp; omega
  · cases e; simp
theorem Costs.node (k : Int) (t : ByteArray) (kids : List Nat) : Costs (node k t kids) (fun _ => -1) := by
  intro l s b s' e
  cases e
  simp
  omega
theorem Costs.may (k : Int) (t : ByteArray) : Costs (may k t) (fun b => if b = true then 2 else 0) := (Costs.acc _).bind fun r => Costs.pure _ (by cases r <;> simp)
theorem Costs.must (t : ByteArray) : Costs (must t) (fun _ => 2) := (Costs.may 7 t).bind fun b => Costs.ite (fun h => Costs.pure _ (by simp [h])) (fun _ => Costs.fail)
theorem Costs.any (k : Int) : Costs (any k) (fun _ => 2) := (Costs.acc _).bind fun r => by
  cases r
  · exact Costs.fail
  · exact Costs.pure _ (by simp)
theorem Costs.name : Costs name (fun _ => 2) := Costs.peek.bind fun _ => Costs.ite (fun _ => Costs.fail) (fun _ => (Costs.any 1).less (fun _ => by simp))
/-- A parser of nodes: at least one word, and one more to spare. -/
abbrev C1 (p : Pr Nat) : Prop := Costs p (fun _ => 1)
theorem Costs.leftGo {part : Pr Nat} (hp : C1 part) (k : Int) (ops : List ByteArray) : ∀ f x, Costs (leftGo part k ops f x) (fun _ => 0)
  | 0, _ => Costs.fail
  | f + 1, x => (Costs.acc _).bind fun r => by
    cases r
    · exact Costs.pure _ (by simp)
    · exact hp.bind fun y => (Costs.node _ _ _).bind fun z => (Costs.leftGo hp k ops f z).less (fun _ => by simp)
theorem Costs.left {part : Pr Nat} (hp : C1 part) (k : Int) (ops : List ByteArray) (K : Nat) : C1 (left K part k ops) := hp.bind fun x => (Costs.leftGo hp k ops K x).less (fun _ => by simp)
theorem Costs.equalOf {p : Pr Nat} (hp : C1 p) (K : Nat) : C1 (equalOf K p) := hp.left _ _ K
theorem Costs.bothOf {p : Pr Nat} (hp : C1 p) (K : Nat) : C1 (bothOf K p) := (hp.equalOf K).left _ _ K
theorem Costs.valueOf {p : Pr Nat} (hp : C1 p) (K : Nat) : C1 (valueOf K p) := (hp.bothOf K).left _ _ K
theorem Costs.plain (K : Nat) : ∀ k, C1 (plain K k)
  | 0 => Costs.fail
  | k + 1 => (Costs.may _ _).bind fun b => Costs.ite (fun hb => (Costs.plain K k).bind fun x => (Costs.node _ _ _).less (fun _ => by simp [hb])) fun hb =>
    (Costs.may _ _).bind fun b2 => Costs.ite (fun hb2 => ((Costs.plain K k).valueOf K).bind fun x => (Costs.must _).bind fun _ => Costs.pure _ (by simp [hb, hb2])) fun hb2 =>
    (Costs.may _ _).bind fun b3 => Costs.ite (fun hb3 => (Costs.node _ _ _).less (fun _ => by simp [hb, hb2, hb3])) fun hb3 =>
    (Costs.may _ _).bind fun b4 => Costs.ite (fun hb4 => (Costs.node _ _ _).less (fun _ => by simp [hb, hb2, hb3, hb4])) fun hb4 =>
    Costs.peek.bind fun w => by
      cases e : kindOf w.1
      · exact Costs.fail
      · exact (Costs.acc _).bind fun r => by
          cases r
          · exact Costs.fail
          · exact (Costs.node _ _ _).less (fun _ => by simp [hb, hb2, hb3, hb4])
theorem Costs.value (K : Nat) : C1 (value K) := (Costs.plain K K).valueOf K
theorem Costs.rowGo {p : Pr Nat} (h : C1 p) (fin : ByteArray) : ∀ k l, Costs (rowGo p fin k l) (fun _ => 0)
  | 0, _ => Costs.fail
  | k + 1, l => h.bind fun x => (Costs.may _ _).bind fun b => Costs.ite (fun hb => (Costs.rowGo h fin k _).less (fun _ => by simp [hb])) (fun hb => (Costs.must _).bind fun _ => Costs.pure _ (by simp [hb]))
theorem Costs.row {p : Pr Nat} (h : C1 p) (fin : ByteArray) (K : Nat) : Costs (row K p fin) (fun _ => 0) := (Costs.may _ _).bind fun b => Costs.ite (fun hb => Costs.pure _ (by simp [hb])) (fun hb => (Costs.rowGo h fin K []).less (fun _ => by simp [hb]))
theorem Costs.param (K : Nat) : C1 (param K) := (Costs.any _).bind fun _ => (Costs.may _ _).bind fun b => Costs.ite (fun hb => (Costs.value K).bind fun x => (Costs.node _ _ _).less (fun _ => by simp [hb])) (fun hb => (Costs.node _ _ _).less (fun _ => by simp [hb]))
theorem Costs.attr (K : Nat) : C1 (attr K) := Costs.peek.bind fun _ => Costs.ite (fun _ => Costs.fail) (fun _ => (Costs.any _).bind fun _ => (Costs.must _).bind fun _ => (Costs.value K).bind fun x => (Costs.node _ _ _).less (fun _ => by simp))
theorem Costs.blockGo {st : Pr Nat} (h : C1 st) : ∀ k l, Costs (blockGo st k l) (fun _ => -1)
  | 0, _ => Costs.fail
  | k + 1, l => (Costs.may _ _).bind fun b => Costs.ite (fun hb => (Costs.node _ _ _).less (fun _ => by simp [hb])) (fun hb => h.bind fun x => (Costs.blockGo h k _).less (fun _ => by simp [hb]))
theorem Costs.block {st : Pr Nat} (h : C1 st) (K : Nat) : C1 (block K st) := (Costs.must _).bind fun _ => (Costs.blockGo h K []).less (fun _ => by simp)
theorem Costs.ref (K : Nat) : Costs (ref K) (fun _ => 2) := (Costs.any _).bind fun _ => (Costs.must _).bind fun _ => (Costs.value K).bind fun x => (Costs.must _).bind fun _ => (Costs.node _ _ _).less (fun _ => by simp)
theorem Costs.chainGo (K : Nat) : ∀ k l, Costs (chainGo K k l) (fun _ => -1)
  | 0, _ => Costs.fail
  | k + 1, l => (Costs.acc _).bind fun r => by
    cases r
    · exact (Costs.node _ _ _).less (fun _ => by simp)
    · exact (Costs.node _ _ _).bind fun a => (Costs.ref K).bind fun b => (Costs.chainGo K k _).less (fun _ => by simp)
theorem Costs.chain (K : Nat) : C1 (chain K) := (Costs.ref K).bind fun x => Costs.peek.bind fun _ => Costs.ite (fun _ => (Costs.chainGo K K [x]).less (fun _ => by simp)) (fun _ => Costs.fail)
theorem Costs.made {st : Pr Nat} (h : C1 st) (K : Nat) (kd : Int) : C1 (made K st kd) := Costs.name.bind fun _ => (Costs.may _ _).bind fun b =>
  (Costs.ite (fun _ => (Costs.param K).row _ K) (fun _ => Costs.pure (g := fun _ => 0) _ (by simp))).bind fun l => (h.block K).bind fun x => (Costs.node _ _ _).less (fun _ => by simp; split <;> omega)
theorem Costs.simple (K : Nat) : C1 (simple K) := Costs.peek.bind fun w => Costs.ite (fun _ => (Costs.any _).bind fun _ => (Costs.must _).bind fun _ => (Costs.value K).bind fun x => (Costs.node _ _ _).less (fun _ => by simp)) fun _ => Costs.ite (fun _ => (Costs.chain K).less (fun _ => by simp)) fun _ =>
  Costs.name.bind fun _ => (Costs.must _).bind fun _ => (Costs.value K).bind fun x => (Costs.must _).bind fun _ => ((Costs.attr K).row _ K).bind fun l => (Costs.node _ _ _).less (fun _ => by simp)
theorem Costs.statement (K : Nat) : ∀ k, C1 (statement K k)
  | 0 => Costs.fail
  | k + 1 => (Costs.may _ _).bind fun b => Costs.ite (fun hb => ((Costs.statement K k).made K 2).less (fun _ => by simp [hb])) fun hb => (Costs.may _ _).bind fun b2 => Costs.ite (fun hb2 => ((Costs.statement K k).made K 3).less (fun _ => by simp [hb, hb2])) fun hb2 =>
    (Costs.may _ _).bind fun b3 => Costs.ite (fun hb3 => Costs.name.bind fun _ => (Costs.node _ _ _).less (fun _ => by simp [hb, hb2, hb3])) fun hb3 => (Costs.may _ _).bind fun b4 => Costs.ite (fun hb4 => (Costs.value K).bind fun x => ((Costs.statement K k).block K).bind fun y =>
      (Costs.may _ _).bind fun b5 => Costs.ite (fun hb5 => ((Costs.statement K k).block K).bind fun z => (Costs.node _ _ _).less (fun _ => by simp [hb, hb2, hb3, hb4, hb5])) (fun hb5 => (Costs.node _ _ _).less (fun _ => by simp [hb, hb2, hb3, hb4, hb5]))) fun hb4 => (Costs.simple K).less (fun _ => by simp [hb, hb2, hb3, hb4])
theorem Costs.gatherGo (K : Nat) : ∀ k l, Costs (gatherGo K k l) (fun _ => 0)
  | 0, _ => Costs.fail
  | k + 1, l => Costs.atEnd.bind fun _ => Costs.ite (fun _ => Costs.pure _ (by simp)) (fun _ => (Costs.statement K K).bind fun _ => (Costs.gatherGo K k _).less (fun _ => by simp))

/-- A parser of one node. -/
structure One (p : Pr Nat) : Prop where
  makes : Makes [] p one
  costs : C1 p
theorem One.get {p : Pr Nat} (h : One p) {l : List Tok} {s s' : PS} {x : Nat} (e : p l s = .ok x s') : x < s'.n.length ∧ s.at_ < s'.at_ ∧ s.n.length < s'.n.length ∧ s'.n.length + 1 + 2 * s.at_ ≤ s.n.length + 2 * s'.at_ := by
  have h1 := h.costs l s x s' e
  obtain ⟨-, hf⟩ := h.makes l s s.n ⟨⟨[], by simp⟩, .nil _⟩ x s' e
  rcases hf.cases' with ⟨_, e2⟩ | ⟨m, y, ys, e1, e2, a, t⟩
  · simp [one] at e2
  · have hy : y = x := by
      cases ys with
      | nil => simpa [one] using e2.symm
      | cons z zs => simp [one] at e2
    subst hy
    have := a.le
    have := t.le
    simp only at h1
    omega
/-- A parser of a row of nodes. -/
structure Many (p : Pr (List Nat)) : Prop where
  makes : Makes [] p id
  costs : Costs p (fun _ => 0)
theorem Many.get {p : Pr (List Nat)} (h : Many p) {l : List Tok} {s s' : PS} {xs : List Nat} (e : p l s = .ok xs s') : (∀ x ∈ xs, x < s'.n.length) ∧ s.at_ ≤ s'.at_ ∧ s.n.length ≤ s'.n.length ∧ s'.n.length + 2 * s.at_ ≤ s.n.length + 2 * s'.at_ := by
  have h1 := h.costs l s xs s' e
  obtain ⟨-, hf⟩ := h.makes l s s.n ⟨⟨[], by simp⟩, .nil _⟩ xs s' e
  refine ⟨fun x hx => ?_, h1.1, h1.2.1, by have := h1.2.2; simp only at this; omega⟩
  have := Fo.range _ _ _ _ rfl hf x hx
  exact this.2
theorem Fo.count {N : List Nd} : ∀ (n i j : Nat) (xs : List Nat), xs.length = n → Fo N i j xs → xs.length + i ≤ j
  | 0, i, j, xs, hn, h => by
    rw [hn]
    have := h.le
    omega
  | n + 1, i, j, xs, hn, h => by
    rcases h.cases' with ⟨_, rfl⟩ | ⟨m, y, ys, rfl, rfl, a, t⟩
    · simp at hn
    · have := Fo.count n i m ys (by simpa using hn) a
      have := t.le
      simp
      omega
theorem Many.len {p : Pr (List Nat)} (h : Many p) {l : List Tok} {s s' : PS} {xs : List Nat} (e : p l s = .ok xs s') : xs.length ≤ s'.n.length := by
  obtain ⟨-, hf⟩ := h.makes l s s.n ⟨⟨[], by simp⟩, .nil _⟩ xs s' e
  have := Fo.count _ _ _ _ rfl hf
  simp only [id] at this
  omega
theorem One.plain (K k : Nat) : One (plain K k) := ⟨Makes.plain K k, Costs.plain K k⟩
theorem One.equalOf {p : Pr Nat} (h : One p) (K : Nat) : One (equalOf K p) := ⟨h.makes.left _ _ K, h.costs.equalOf K⟩
theorem One.bothOf {p : Pr Nat} (h : One p) (K : Nat) : One (bothOf K p) := ⟨(h.equalOf K).makes.left _ _ K, h.costs.bothOf K⟩
theorem One.valueOf {p : Pr Nat} (h : One p) (K : Nat) : One (valueOf K p) := ⟨h.makes.valueOf K, h.costs.valueOf K⟩
theorem One.value (K : Nat) : One (value K) := ⟨Makes.value K, Costs.value K⟩
theorem One.param (K : Nat) : One (param K) := ⟨Makes.param K, Costs.param K⟩
theorem One.attr (K : Nat) : One (attr K) := ⟨Makes.attr K, Costs.attr K⟩
theorem One.block {st : Pr Nat} (h : One st) (K : Nat) : One (block K st) := ⟨h.makes.block K, h.costs.block K⟩
theorem One.ref (K : Nat) : One (ref K) := ⟨Makes.ref K, (Costs.ref K).less (fun _ => by decide)⟩
theorem One.chain (K : Nat) : One (chain K) := ⟨Makes.chain K, Costs.chain K⟩
theorem One.made {st : Pr Nat} (h : One st) (K : Nat) (kd : Int) : One (made K st kd) := ⟨h.makes.made K kd, h.costs.made K kd⟩
theorem One.statement (K k : Nat) : One (statement K k) := ⟨Makes.statement K k, Costs.statement K k⟩
theorem Many.row {p : Pr Nat} (h : One p) (fin : ByteArray) (K : Nat) : Many (row K p fin) := ⟨h.makes.row fin K, h.costs.row fin K⟩
end Go.Proofs.Ytoggcdldoinbnaa.syn
