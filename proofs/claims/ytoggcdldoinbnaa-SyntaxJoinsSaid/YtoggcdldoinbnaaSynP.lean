/- A manifest's words as a tree: the parser in plain Lean, and its laws (no program in sight). -/
import Derived.Test.YtoggcdldoinbnaaRows
import Derived.Lib.Strings
import Derived.Lib.SlicesS
import Derived.Lib.Bytealg
namespace Go.Proofs.Ytoggcdldoinbnaa.syn
set_option linter.unusedVariables false

abbrev Tok := Int × ByteArray
structure Nd where
  kind : Int
  text : ByteArray
  kids : List Nat
/-- How far it came, the nodes, and how deep each is. -/
structure PS where
  at_ : Nat
  n : List Nd
  d : List Nat
inductive Res (α : Type) where
  | ok (a : α) (s : PS)
  | bad (at_ : Nat)
abbrev Pr (α : Type) := List Tok → PS → Res α
def Res.pos {α : Type} : Res α → Nat
  | .ok _ s => s.at_
  | .bad a => a
def Pr.bind {α β : Type} (p : Pr α) (f : α → Pr β) : Pr β := fun l s => match p l s with
  | .ok a s' => f a l s'
  | .bad a => .bad a
def Pr.pure {α : Type} (a : α) : Pr α := fun _ s => .ok a s
def fail {α : Type} : Pr α := fun _ s => .bad s.at_
def next (l : List Tok) (s : PS) : Tok := l.getD s.at_ (0, (⟨#[]⟩ : ByteArray))
def peek : Pr Tok := fun l s => .ok (next l s) s
def acc (q : Tok → Bool) : Pr (Option ByteArray) := fun l s => if q (next l s) = true then .ok (some (next l s).2) { s with at_ := s.at_ + 1 } else .ok none s
def depthOf (d : List Nat) (kids : List Nat) : Nat := kids.foldl (fun m k => max m (d.getD k 0 + 1)) 1
def node (kind : Int) (text : ByteArray) (kids : List Nat) : Pr Nat := fun _ s => .ok s.n.length { s with n := s.n ++ [⟨kind, text, kids⟩], d := s.d ++ [depthOf s.d kids] }
def atEnd : Pr Bool := fun l s => .ok (decide (l.length ≤ s.at_)) s

def isOne (kind : Int) (texts : List ByteArray) : Tok → Bool := fun w => decide (w.1 = kind) && Lib.containsS texts w.2
def is (kind : Int) (text : ByteArray) : Tok → Bool := isOne kind [text]
def may (kind : Int) (text : ByteArray) : Pr Bool := (acc (is kind text)).bind fun r => Pr.pure r.isSome
def must (text : ByteArray) : Pr Unit := (may 7 text).bind fun b => if b = true then Pr.pure () else fail
def any (kind : Int) : Pr ByteArray := (acc fun w => decide (w.1 = kind)).bind fun r => match r with
  | some t => Pr.pure t
  | none => fail
def keywords : List ByteArray := [⟨#[99, 108, 97, 115, 115]⟩, ⟨#[100, 101, 102, 105, 110, 101]⟩, ⟨#[105, 110, 99, 108, 117, 100, 101]⟩, ⟨#[105, 102]⟩, ⟨#[101, 108, 115, 101]⟩, ⟨#[116, 114, 117, 101]⟩, ⟨#[102, 97, 108, 115, 101]⟩, ⟨#[97, 110, 100]⟩, ⟨#[111, 114]⟩]
def name : Pr ByteArray := peek.bind fun w => if Lib.containsS keywords w.2 = true then fail else any 1

def leftGo (part : Pr Nat) (kind : Int) (ops : List ByteArray) : Nat → Nat → Pr Nat
  | 0, _ => fail
  | k + 1, x => (acc (isOne kind ops)).bind fun r => match r with
    | none => Pr.pure x
    | some t => part.bind fun y => (node 19 t [x, y]).bind fun z => leftGo part kind ops k z
def left (K : Nat) (part : Pr Nat) (kind : Int) (ops : List ByteArray) : Pr Nat := part.bind fun x => leftGo part kind ops K x
def equalOf (K : Nat) (plain : Pr Nat) : Pr Nat := left K plain 7 [⟨#[61, 61]⟩, ⟨#[33, 61]⟩]
def bothOf (K : Nat) (plain : Pr Nat) : Pr Nat := left K (equalOf K plain) 1 [⟨#[97, 110, 100]⟩]
def valueOf (K : Nat) (plain : Pr Nat) : Pr Nat := left K (bothOf K plain) 1 [⟨#[111, 114]⟩]
def kindOf (k : Int) : Option Int := if k = 4 then some 13 else if k = 5 then some 14 else if k = 6 then some 15 else if k = 3 then some 16 else none
def plain (K : Nat) : Nat → Pr Nat
  | 0 => fail
  | k + 1 => (may 7 (⟨#[33]⟩ : ByteArray)).bind fun b => if b = true then (plain K k).bind fun x => node 20 (⟨#[]⟩ : ByteArray) [x] else
    (may 7 (⟨#[40]⟩ : ByteArray)).bind fun b => if b = true then (valueOf K (plain K k)).bind fun x => (must (⟨#[41]⟩ : ByteArray)).bind fun _ => Pr.pure x else
    (may 1 (⟨#[116, 114, 117, 101]⟩ : ByteArray)).bind fun b => if b = true then node 17 (⟨#[]⟩ : ByteArray) [] else
    (may 1 (⟨#[102, 97, 108, 115, 101]⟩ : ByteArray)).bind fun b => if b = true then node 18 (⟨#[]⟩ : ByteArray) [] else
    peek.bind fun w => match kindOf w.1 with
      | none => fail
      | some kd => (acc fun v => (kindOf v.1).isSome).bind fun r => match r with
        | none => fail
        | some t => node kd t []
def value (K : Nat) : Pr Nat := valueOf K (plain K K)
def rowGo (one : Pr Nat) (fin : ByteArray) : Nat → List Nat → Pr (List Nat)
  | 0, _ => fail
  | k + 1, l => one.bind fun x => (may 7 (⟨#[44]⟩ : ByteArray)).bind fun b => if b = true then rowGo one fin k (l ++ [x]) else (must fin).bind fun _ => Pr.pure (l ++ [x])
def row (K : Nat) (one : Pr Nat) (fin : ByteArray) : Pr (List Nat) := (may 7 fin).bind fun b => if b = true then Pr.pure [] else rowGo one fin K []
def param (K : Nat) : Pr Nat := (any 3).bind fun s => (may 7 (⟨#[61]⟩ : ByteArray)).bind fun b => if b = true then (value K).bind fun x => node 4 s [x] else node 4 s []
def colon (t : ByteArray) : Bool := decide (0 ≤ Lib.indexByte t.data.toList 58)
def attr (K : Nat) : Pr Nat := peek.bind fun w => if colon w.2 = true then fail else (any 1).bind fun s => (must (⟨#[61, 62]⟩ : ByteArray)).bind fun _ => (value K).bind fun x => node 9 s [x]
def blockGo (st : Pr Nat) : Nat → List Nat → Pr Nat
  | 0, _ => fail
  | k + 1, l => (may 7 (⟨#[125]⟩ : ByteArray)).bind fun b => if b = true then node 1 (⟨#[]⟩ : ByteArray) l else st.bind fun x => blockGo st k (l ++ [x])
def block (K : Nat) (st : Pr Nat) : Pr Nat := (must (⟨#[123]⟩ : ByteArray)).bind fun _ => blockGo st K []
def ref (K : Nat) : Pr Nat := (any 2).bind fun s => (must (⟨#[91]⟩ : ByteArray)).bind fun _ => (value K).bind fun x => (must (⟨#[93]⟩ : ByteArray)).bind fun _ => node 11 s [x]
def arrows : List ByteArray := [⟨#[45, 62]⟩, ⟨#[126, 62]⟩]
def chainGo (K : Nat) : Nat → List Nat → Pr Nat
  | 0, _ => fail
  | k + 1, l => (acc (isOne 7 arrows)).bind fun r => match r with
    | none => node 10 (⟨#[]⟩ : ByteArray) l
    | some t => (node 12 t []).bind fun a => (ref K).bind fun b => chainGo K k (l ++ [a] ++ [b])
def chain (K : Nat) : Pr Nat := (ref K).bind fun x => peek.bind fun w => if isOne 7 arrows w = true then chainGo K K [x] else fail
def made (K : Nat) (st : Pr Nat) (kd : Int) : Pr Nat := name.bind fun s => (may 7 (⟨#[40]⟩ : ByteArray)).bind fun b =>
  (if b = true then row K (param K) (⟨#[41]⟩ : ByteArray) else Pr.pure []).bind fun l => (block K st).bind fun x => node kd s (l ++ [x])
def simple (K : Nat) : Pr Nat := peek.bind fun w =>
  if w.1 = 3 then (any 3).bind fun s => (must (⟨#[61]⟩ : ByteArray)).bind fun _ => (value K).bind fun x => node 6 s [x] else
  if w.1 = 2 then chain K else
  name.bind fun s => (must (⟨#[123]⟩ : ByteArray)).bind fun _ => (value K).bind fun x => (must (⟨#[58]⟩ : ByteArray)).bind fun _ => (row K (attr K) (⟨#[125]⟩ : ByteArray)).bind fun l => node 8 s ([x] ++ l)
def statement (K : Nat) : Nat → Pr Nat
  | 0 => fail
  | k + 1 => (may 1 (⟨#[99, 108, 97, 115, 115]⟩ : ByteArray)).bind fun b => if b = true then made K (statement K k) 2 else
    (may 1 (⟨#[100, 101, 102, 105, 110, 101]⟩ : ByteArray)).bind fun b => if b = true then made K (statement K k) 3 else
    (may 1 (⟨#[105, 110, 99, 108, 117, 100, 101]⟩ : ByteArray)).bind fun b => if b = true then name.bind fun s => node 5 s [] else
    (may 1 (⟨#[105, 102]⟩ : ByteArray)).bind fun b => if b = true then (value K).bind fun x => (block K (statement K k)).bind fun y =>
      (may 1 (⟨#[101, 108, 115, 101]⟩ : ByteArray)).bind fun e => if e = true then (block K (statement K k)).bind fun z => node 7 (⟨#[]⟩ : ByteArray) [x, y, z] else node 7 (⟨#[]⟩ : ByteArray) [x, y] else
    simple K
def gatherGo (K : Nat) : Nat → List Nat → Pr (List Nat)
  | 0, _ => fail
  | k + 1, l => atEnd.bind fun e => if e = true then Pr.pure l else (statement K K).bind fun x => gatherGo K k (l ++ [x])
def start : PS := ⟨0, [], []⟩
def all (K F : Nat) : Pr Nat := (gatherGo K F []).bind fun l => node 1 (⟨#[]⟩ : ByteArray) l
def most (d : List Nat) : Nat := d.foldl max 0
/-- Parse: the nodes, the word, the error. -/
def parse (K F : Nat) (l : List Tok) : List Nd × Nat × Int :=
  if 4096 < l.length then ([], 0, 5) else match all K F l start with
  | .bad a => ([], a, 120)
  | .ok _ s => if 1024 < s.n.length ∨ 32 < most s.d then ([], 0, 5) else (s.n, 0, 0)

/-! ### What comes behind is not seen -/
structure Nice {α : Type} (p : Pr α) : Prop where
  mono : ∀ l s, s.at_ ≤ (p l s).pos
  bound : ∀ l s, s.at_ ≤ l.length → (p l s).pos ≤ l.length
  loc : ∀ l l' s, (∀ i, i ≤ (p l s).pos → l[i]? = l'[i]?) → p l' s = p l s
section
variable {α β : Type} {p : Pr α} {f : α → Pr β}
theorem Nice.bind (hp : Nice p) (hf : ∀ a, Nice (f a)) : Nice (p.bind f) := by
  refine ⟨fun l s => ?_, fun l s h => ?_, fun l l' s h => ?_⟩
  · unfold Pr.bind
    have h1 := hp.mono l s
    cases e : p l s with
    | bad a => rw [e] at h1; exact h1
    | ok a s' =>
      rw [e] at h1
      exact Nat.le_trans h1 ((hf a).mono l s')
  · unfold Pr.bind
    have h1 := hp.bound l s h
    cases e : p l s with
    | bad a => rw [e] at h1; exact h1
    | ok a s' =>
      rw [e] at h1
      exact (hf a).bound l s' h1
  · unfold Pr.bind at h ⊢
    cases e : p l s with
    | bad a =>
      rw [e] at h
      have := hp.loc l l' s (by rw [e]; exact h)
      rw [this, e]
    | ok a s' =>
      rw [e] at h
      have h2 : p l' s = p l s := hp.loc l l' s (by
        rw [e]
        intro i hi
        exact h i (Nat.le_trans hi ((hf a).mono l s')))
      rw [h2, e]
      exact (hf a).loc l l' s' h
theorem Nice.pure (a : α) : Nice (Pr.pure a) := ⟨fun _ _ => Nat.le_refl _, fun _ _ h => h, fun _ _ _ _ => rfl⟩
theorem Nice.fail : Nice (fail : Pr α) := ⟨fun _ _ => Nat.le_refl _, fun _ _ h => h, fun _ _ _ _ => rfl⟩
end
theorem next_same {l l' : List Tok} {s : PS} (h : l[s.at_]? = l'[s.at_]?) : next l' s = next l s := by
  unfold next
  rw [List.getD_eq_getElem?_getD, List.getD_eq_getElem?_getD, h]
theorem next_end {l : List Tok} {s : PS} (h : l.length ≤ s.at_) : next l s = (0, (⟨#[]⟩ : ByteArray)) := by
  unfold next
  rw [List.getD_eq_getElem?_getD, List.getElem?_eq_none h]
  rfl
theorem Nice.peek : Nice peek := ⟨fun _ _ => Nat.le_refl _, fun _ _ h => h, fun l l' s h => by
  show Res.ok _ _ = Res.ok _ _
  rw [next_same (h s.at_ (Nat.le_refl _))]⟩
theorem Nice.node (k : Int) (t : ByteArray) (kids : List Nat) : Nice (node k t kids) := ⟨fun _ _ => Nat.le_refl _, fun _ _ h => h, fun _ _ _ _ => rfl⟩
theorem Nice.acc {q : Tok → Bool} (hq : q (0, (⟨#[]⟩ : ByteArray)) = false) : Nice (acc q) := by
  refine ⟨fun l s => ?_, fun l s h => ?_, fun l l' s h => ?_⟩
  · unfold syn.acc
    split
    · exact Nat.le_succ _
    · exact Nat.le_refl _
  · unfold syn.acc
    split
    · rename_i hc
      rcases Nat.lt_or_ge s.at_ l.length with h1 | h1
      · exact h1
      · rw [next_end h1, hq] at hc; cases hc
    · exact h
  · have hs : l[s.at_]? = l'[s.at_]? := by
      refine h s.at_ ?_
      unfold syn.acc
      split
      · exact Nat.le_succ _
      · exact Nat.le_refl _
    unfold syn.acc
    rw [next_same hs]
theorem Nice.atEnd : Nice atEnd := ⟨fun _ _ => Nat.le_refl _, fun _ _ h => h, fun l l' s h => by
  have hs := h s.at_ (Nat.le_refl _)
  have : (l'.length ≤ s.at_) ↔ (l.length ≤ s.at_) := by rw [← List.getElem?_eq_none_iff, ← List.getElem?_eq_none_iff, hs]
  show Res.ok _ _ = Res.ok _ _
  rw [decide_eq_decide.2 this]⟩
theorem Nice.ite {α : Type} {c : Prop} [Decidable c] {p q : Pr α} (hp : Nice p) (hq : Nice q) : Nice (if c then p else q) := by
  split
  · exact hp
  · exact hq
theorem isOne_end {k : Int} (hk : k ≠ 0) (ts : List ByteArray) : isOne k ts (0, (⟨#[]⟩ : ByteArray)) = false := by
  unfold isOne
  rw [decide_eq_false (fun e => hk e.symm), Bool.false_and]
theorem is_end {k : Int} (hk : k ≠ 0) (t : ByteArray) : is k t (0, (⟨#[]⟩ : ByteArray)) = false := isOne_end hk _
theorem Nice.may {k : Int} (hk : k ≠ 0) (t : ByteArray) : Nice (may k t) := (Nice.acc (is_end hk t)).bind fun _ => Nice.pure _
theorem Nice.must (t : ByteArray) : Nice (must t) := (Nice.may (by decide) t).bind fun _ => Nice.ite (Nice.pure _) Nice.fail
theorem Nice.any {k : Int} (hk : k ≠ 0) : Nice (any k) := (Nice.acc (decide_eq_false (fun e => hk e.symm))).bind fun r => by
  cases r
  · exact Nice.fail
  · exact Nice.pure _
theorem Nice.name : Nice name := Nice.peek.bind fun _ => Nice.ite Nice.fail (Nice.any (by decide))
theorem Nice.leftGo {part : Pr Nat} (hp : Nice part) {k : Int} (hk : k ≠ 0) (ops : List ByteArray) : ∀ f x, Nice (leftGo part k ops f x)
  | 0, _ => Nice.fail
  | f + 1, x => (Nice.acc (isOne_end hk ops)).bind fun r => by
    cases r
    · exact Nice.pure _
    · exact hp.bind fun y => (Nice.node _ _ _).bind fun z => Nice.leftGo hp hk ops f z
theorem Nice.left {part : Pr Nat} (hp : Nice part) {k : Int} (hk : k ≠ 0) (ops : List ByteArray) (K : Nat) : Nice (left K part k ops) := hp.bind fun x => Nice.leftGo hp hk ops K x
theorem Nice.valueOf {p : Pr Nat} (hp : Nice p) (K : Nat) : Nice (valueOf K p) := ((hp.left (by decide) _ K).left (by decide) _ K).left (by decide) _ K
theorem Nice.plain (K : Nat) : ∀ k, Nice (plain K k)
  | 0 => Nice.fail
  | k + 1 => (Nice.may (by decide) _).bind fun _ => Nice.ite ((Nice.plain K k).bind fun _ => Nice.node _ _ _) <|
    (Nice.may (by decide) _).bind fun _ => Nice.ite (((Nice.plain K k).valueOf K).bind fun _ => (Nice.must _).bind fun _ => Nice.pure _) <|
    (Nice.may (by decide) _).bind fun _ => Nice.ite (Nice.node _ _ _) <| (Nice.may (by decide) _).bind fun _ => Nice.ite (Nice.node _ _ _) <|
    Nice.peek.bind fun w => by
      cases e : kindOf w.1
      · exact Nice.fail
      · exact (Nice.acc (by decide)).bind fun r => by
          cases r
          · exact Nice.fail
          · exact Nice.node _ _ _
theorem Nice.value (K : Nat) : Nice (value K) := (Nice.plain K K).valueOf K
theorem Nice.rowGo {one : Pr Nat} (h : Nice one) (fin : ByteArray) : ∀ k l, Nice (rowGo one fin k l)
  | 0, _ => Nice.fail
  | k + 1, l => h.bind fun x => (Nice.may (by decide) _).bind fun _ => Nice.ite (Nice.rowGo h fin k _) ((Nice.must _).bind fun _ => Nice.pure _)
theorem Nice.row {one : Pr Nat} (h : Nice one) (fin : ByteArray) (K : Nat) : Nice (row K one fin) := (Nice.may (by decide) _).bind fun _ => Nice.ite (Nice.pure _) (Nice.rowGo h fin K _)
theorem Nice.param (K : Nat) : Nice (param K) := (Nice.any (by decide)).bind fun _ => (Nice.may (by decide) _).bind fun _ => Nice.ite ((Nice.value K).bind fun _ => Nice.node _ _ _) (Nice.node _ _ _)
theorem Nice.attr (K : Nat) : Nice (attr K) := Nice.peek.bind fun _ => Nice.ite Nice.fail ((Nice.any (by decide)).bind fun _ => (Nice.must _).bind fun _ => (Nice.value K).bind fun _ => Nice.node _ _ _)
theorem Nice.blockGo {st : Pr Nat} (h : Nice st) : ∀ k l, Nice (blockGo st k l)
  | 0, _ => Nice.fail
  | k + 1, l => (Nice.may (by decide) _).bind fun _ => Nice.ite (Nice.node _ _ _) (h.bind fun x => Nice.blockGo h k _)
theorem Nice.block {st : Pr Nat} (h : Nice st) (K : Nat) : Nice (block K st) := (Nice.must _).bind fun _ => Nice.blockGo h K _
theorem Nice.ref (K : Nat) : Nice (ref K) := (Nice.any (by decide)).bind fun _ => (Nice.must _).bind fun _ => (Nice.value K).bind fun _ => (Nice.must _).bind fun _ => Nice.node _ _ _
theorem Nice.chainGo (K : Nat) : ∀ k l, Nice (chainGo K k l)
  | 0, _ => Nice.fail
  | k + 1, l => (Nice.acc (isOne_end (by decide) _)).bind fun r => by
    cases r
    · exact Nice.node _ _ _
    · exact (Nice.node _ _ _).bind fun _ => (Nice.ref K).bind fun _ => Nice.chainGo K k _
theorem Nice.chain (K : Nat) : Nice (chain K) := (Nice.ref K).bind fun _ => Nice.peek.bind fun _ => Nice.ite (Nice.chainGo K K _) Nice.fail
theorem Nice.made {st : Pr Nat} (h : Nice st) (K : Nat) (kd : Int) : Nice (made K st kd) := Nice.name.bind fun _ => (Nice.may (by decide) _).bind fun _ => (Nice.ite ((Nice.param K).row _ K) (Nice.pure _)).bind fun _ => (h.block K).bind fun _ => Nice.node _ _ _
theorem Nice.simple (K : Nat) : Nice (simple K) := Nice.peek.bind fun w => Nice.ite ((Nice.any (by decide)).bind fun _ => (Nice.must _).bind fun _ => (Nice.value K).bind fun _ => Nice.node _ _ _) <| Nice.ite (Nice.chain K) <|
  Nice.name.bind fun _ => (Nice.must _).bind fun _ => (Nice.value K).bind fun _ => (Nice.must _).bind fun _ => ((Nice.attr K).row _ K).bind fun _ => Nice.node _ _ _
theorem Nice.statement (K : Nat) : ∀ k, Nice (statement K k)
  | 0 => Nice.fail
  | k + 1 => (Nice.may (by decide) _).bind fun _ => Nice.ite ((Nice.statement K k).made K 2) <| (Nice.may (by decide) _).bind fun _ => Nice.ite ((Nice.statement K k).made K 3) <|
    (Nice.may (by decide) _).bind fun _ => Nice.ite (Nice.name.bind fun _ => Nice.node _ _ _) <| (Nice.may (by decide) _).bind fun _ => Nice.ite ((Nice.value K).bind fun _ => ((Nice.statement K k).block K).bind fun _ =>
      (Nice.may (by decide) _).bind fun _ => Nice.ite (((Nice.statement K k).block K).bind fun _ => Nice.node _ _ _) (Nice.node _ _ _)) <| Nice.simple K
theorem Nice.gatherGo (K : Nat) : ∀ k l, Nice (gatherGo K k l)
  | 0, _ => Nice.fail
  | k + 1, l => Nice.atEnd.bind fun _ => Nice.ite (Nice.pure _) ((Nice.statement K K).bind fun _ => Nice.gatherGo K k _)
theorem Nice.all (K F : Nat) : Nice (all K F) := (Nice.gatherGo K F []).bind fun _ => Nice.node _ _ _

/-- What comes behind the word that was refused is not seen. -/
theorem all_behind {K F : Nat} {l l' : List Tok} {a : Nat} (h : all K F l start = .bad a) (hs : ∀ i, i ≤ a → l[i]? = l'[i]?) : all K F l' start = .bad a := by
  rw [(Nice.all K F).loc l l' start (by rw [h]; exact hs), h]
/-- And what is ahead of it is the beginning of some manifest. -/
theorem all_ahead {K F : Nat} {l : List Tok} {a : Nat} (h : all K F l start = .bad a) (ha : a ≤ l.length) : (∃ x s, all K F (l.take a) start = .ok x s) ∨ all K F (l.take a) start = .bad a := by
  cases e : all K F (l.take a) start with
  | ok x s => exact .inl ⟨x, s, rfl⟩
  | bad b =>
    right
    have h1 := (Nice.all K F).bound (l.take a) start (Nat.zero_le _)
    rw [e] at h1
    have h2 : b ≤ a := by simp only [Res.pos, List.length_take] at h1; omega
    rcases Nat.lt_or_ge b a with h3 | h3
    · have h4 := all_behind (l' := l) e (fun i hi => by rw [List.getElem?_take, if_pos (by omega)])
      rw [h] at h4
      cases h4
      omega
    · rw [show b = a by omega]
theorem all_bound {K F : Nat} {l : List Tok} {a : Nat} (h : all K F l start = .bad a) : a ≤ l.length := by
  have h1 := (Nice.all K F).bound l start (Nat.zero_le _)
  rw [h] at h1
  exact h1
end Go.Proofs.Ytoggcdldoinbnaa.syn
