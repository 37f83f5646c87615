/- The parser behind two words that made one node: the same, one node on. -/
import Derived.Test.YtoggcdldoinbnaaSynQ
namespace Go.Proofs.Ytoggcdldoinbnaa.syn
set_option linter.unusedVariables false

def up : Nat → Nat := fun x => x + 1
def upN (nd : Nd) : Nd := { nd with kids := nd.kids.map up }
def shift (inc : Nd) (s : PS) : PS := ⟨s.at_ + 2, inc :: s.n.map upN, 1 :: s.d⟩
def Res.on {α : Type} (inc : Nd) (φ : α → α) : Res α → Res α
  | .ok a s => .ok (φ a) (shift inc s)
  | .bad a => .bad (a + 2)
section
variable (u v : Tok) (inc : Nd)
/-- The one parser does behind the two words what the other does without. -/
def SR {α : Type} (p' p : Pr α) (φ : α → α) : Prop := ∀ l s, p' (u :: v :: l) (shift inc s) = (p l s).on inc φ
variable {u v inc}
variable {α β : Type}
theorem SR.bind {p' p : Pr α} {f' f : α → Pr β} {φ : α → α} {ψ : β → β} (hp : SR u v inc p' p φ) (hf : ∀ a, SR u v inc (f' (φ a)) (f a) ψ) : SR u v inc (p'.bind f') (p.bind f) ψ := by
  intro l s
  unfold Pr.bind
  rw [hp l s]
  cases e : p l s with
  | bad a => rfl
  | ok a s1 => exact hf a l s1
theorem SR.pure {φ : α → α} (a : α) : SR u v inc (Pr.pure (φ a)) (Pr.pure a) φ := fun _ _ => rfl
theorem SR.fail {φ : α → α} : SR u v inc (fail : Pr α) fail φ := fun _ _ => rfl
theorem next_shift (l : List Tok) (s : PS) : next (u :: v :: l) (shift inc s) = next l s := by
  unfold next shift
  simp [List.getD_eq_getElem?_getD]
theorem SR.peek : SR u v inc peek peek id := fun l s => by
  show Res.ok _ _ = Res.ok _ _
  rw [next_shift]; rfl
theorem SR.atEnd : SR u v inc atEnd atEnd id := fun l s => by
  show Res.ok _ _ = Res.ok _ _
  have : ((u :: v :: l).length ≤ (shift inc s).at_) ↔ (l.length ≤ s.at_) := by simp [shift]
  rw [decide_eq_decide.2 this]; rfl
theorem SR.acc (q : Tok → Bool) : SR u v inc (acc q) (acc q) id := fun l s => by
  unfold syn.acc
  rw [next_shift]
  split <;> rfl
theorem depth_shift (d kids : List Nat) : depthOf (1 :: d) (kids.map up) = depthOf d kids := by
  unfold depthOf
  rw [List.foldl_map]
  rfl
theorem SR.node (k : Int) (t : ByteArray) (kids : List Nat) : SR u v inc (node k t (kids.map up)) (node k t kids) up := fun l s => by
  unfold syn.node Res.on shift
  simp [depth_shift, up, upN]
theorem SR.ite {c : Prop} [Decidable c] {p' p q' q : Pr α} {φ : α → α} (hp : SR u v inc p' p φ) (hq : SR u v inc q' q φ) : SR u v inc (if c then p' else q') (if c then p else q) φ := by
  split
  · exact hp
  · exact hq
theorem SR.may (k : Int) (t : ByteArray) : SR u v inc (may k t) (may k t) id := (SR.acc _).bind fun r => SR.pure (φ := id) _
theorem SR.must (t : ByteArray) : SR u v inc (must t) (must t) id := (SR.may 7 t).bind fun _ => SR.ite (SR.pure (φ := id) _) SR.fail
theorem SR.any (k : Int) : SR u v inc (any k) (any k) id := (SR.acc _).bind fun r => by
  cases r
  · exact SR.fail
  · exact SR.pure (φ := id) _
theorem SR.name : SR u v inc name name id := SR.peek.bind fun _ => SR.ite SR.fail (SR.any 1)
theorem SR.leftGo {part : Pr Nat} (hp : SR u v inc part part up) (k : Int) (ops : List ByteArray) : ∀ f x, SR u v inc (leftGo part k ops f (up x)) (leftGo part k ops f x) up
  | 0, _ => SR.fail
  | f + 1, x => (SR.acc _).bind fun r => by
    cases r
    · exact SR.pure (φ := up) x
    · exact hp.bind fun y => (SR.node 19 _ [x, y]).bind fun z => SR.leftGo hp k ops f z
theorem SR.left {part : Pr Nat} (hp : SR u v inc part part up) (k : Int) (ops : List ByteArray) (K : Nat) : SR u v inc (left K part k ops) (left K part k ops) up := hp.bind fun x => SR.leftGo hp k ops K x
theorem SR.valueOf {p : Pr Nat} (hp : SR u v inc p p up) (K : Nat) : SR u v inc (valueOf K p) (valueOf K p) up := ((hp.left _ _ K).left _ _ K).left _ _ K
theorem SR.plain (K : Nat) : ∀ k, SR u v inc (plain K k) (plain K k) up
  | 0 => SR.fail
  | k + 1 => (SR.may _ _).bind fun _ => SR.ite ((SR.plain K k).bind fun x => SR.node 20 _ [x]) <|
    (SR.may _ _).bind fun _ => SR.ite (((SR.plain K k).valueOf K).bind fun x => (SR.must _).bind fun _ => SR.pure (φ := up) x) <|
    (SR.may _ _).bind fun _ => SR.ite (SR.node _ _ []) <| (SR.may _ _).bind fun _ => SR.ite (SR.node _ _ []) <|
    SR.peek.bind fun w => by
      simp only [id]
      cases e : kindOf w.1
      · exact SR.fail
      · exact (SR.acc _).bind fun r => by
          cases r
          · exact SR.fail
          · exact SR.node _ _ []
theorem SR.value (K : Nat) : SR u v inc (value K) (value K) up := (SR.plain K K).valueOf K
theorem SR.rowGo {p : Pr Nat} (h : SR u v inc p p up) (fin : ByteArray) : ∀ k l, SR u v inc (rowGo p fin k (l.map up)) (rowGo p fin k l) (List.map up)
  | 0, _ => SR.fail
  | k + 1, l => h.bind fun x => (SR.may _ _).bind fun _ => SR.ite (by
      have := SR.rowGo h fin k (l ++ [x])
      rw [List.map_append] at this
      exact this) ((SR.must _).bind fun _ => by
      have := SR.pure (u := u) (v := v) (inc := inc) (φ := List.map up) (l ++ [x])
      rw [List.map_append] at this
      exact this)
theorem SR.row {p : Pr Nat} (h : SR u v inc p p up) (fin : ByteArray) (K : Nat) : SR u v inc (row K p fin) (row K p fin) (List.map up) := (SR.may _ _).bind fun _ => SR.ite (SR.pure (φ := List.map up) []) (SR.rowGo h fin K [])
theorem SR.param (K : Nat) : SR u v inc (param K) (param K) up := (SR.any _).bind fun _ => (SR.may _ _).bind fun _ => SR.ite ((SR.value K).bind fun x => SR.node _ _ [x]) (SR.node _ _ [])
theorem SR.attr (K : Nat) : SR u v inc (attr K) (attr K) up := SR.peek.bind fun _ => SR.ite SR.fail ((SR.any _).bind fun _ => (SR.must _).bind fun _ => (SR.value K).bind fun x => SR.node _ _ [x])
theorem SR.blockGo {st : Pr Nat} (h : SR u v inc st st up) : ∀ k l, SR u v inc (blockGo st k (l.map up)) (blockGo st k l) up
  | 0, _ => SR.fail
  | k + 1, l => (SR.may _ _).bind fun _ => SR.ite (SR.node _ _ l) (h.bind fun x => by
      have := SR.blockGo h k (l ++ [x])
      rw [List.map_append] at this
      exact this)
theorem SR.block {st : Pr Nat} (h : SR u v inc st st up) (K : Nat) : SR u v inc (block K st) (block K st) up := (SR.must _).bind fun _ => SR.blockGo h K []
theorem SR.ref (K : Nat) : SR u v inc (ref K) (ref K) up := (SR.any _).bind fun _ => (SR.must _).bind fun _ => (SR.value K).bind fun x => (SR.must _).bind fun _ => SR.node _ _ [x]
theorem SR.chainGo (K : Nat) : ∀ k l, SR u v inc (chainGo K k (l.map up)) (chainGo K k l) up
  | 0, _ => SR.fail
  | k + 1, l => (SR.acc _).bind fun r => by
    cases r
    · exact SR.node _ _ l
    · exact (SR.node 12 _ []).bind fun a => (SR.ref K).bind fun b => by
        have := SR.chainGo K k (l ++ [a] ++ [b])
        rw [List.map_append, List.map_append] at this
        exact this
theorem SR.chain (K : Nat) : SR u v inc (chain K) (chain K) up := (SR.ref K).bind fun x => SR.peek.bind fun _ => SR.ite (SR.chainGo K K [x]) SR.fail
theorem SR.made {st : Pr Nat} (h : SR u v inc st st up) (K : Nat) (kd : Int) : SR u v inc (made K st kd) (made K st kd) up := SR.name.bind fun _ => (SR.may _ _).bind fun _ =>
  (SR.ite ((SR.param K).row _ K) (SR.pure (φ := List.map up) [])).bind fun l => (h.block K).bind fun x => by
    have := SR.node (u := u) (v := v) (inc := inc) kd ‹ByteArray› (l ++ [x])
    rw [List.map_append] at this
    exact this
theorem SR.simple (K : Nat) : SR u v inc (simple K) (simple K) up := SR.peek.bind fun w => SR.ite ((SR.any _).bind fun _ => (SR.must _).bind fun _ => (SR.value K).bind fun x => SR.node _ _ [x]) <| SR.ite (SR.chain K) <|
  SR.name.bind fun _ => (SR.must _).bind fun _ => (SR.value K).bind fun x => (SR.must _).bind fun _ => ((SR.attr K).row _ K).bind fun l => SR.node _ _ ([x] ++ l)
theorem SR.statement (K : Nat) : ∀ k, SR u v inc (statement K k) (statement K k) up
  | 0 => SR.fail
  | k + 1 => (SR.may _ _).bind fun _ => SR.ite ((SR.statement K k).made K 2) <| (SR.may _ _).bind fun _ => SR.ite ((SR.statement K k).made K 3) <|
    (SR.may _ _).bind fun _ => SR.ite (SR.name.bind fun _ => SR.node _ _ []) <| (SR.may _ _).bind fun _ => SR.ite ((SR.value K).bind fun x => ((SR.statement K k).block K).bind fun y =>
      (SR.may _ _).bind fun _ => SR.ite (((SR.statement K k).block K).bind fun z => SR.node 7 _ [x, y, z]) (SR.node 7 _ [x, y])) <| SR.simple K
theorem SR.gatherGo (K : Nat) : ∀ k l, SR u v inc (gatherGo K k ([0] ++ l.map up)) (gatherGo K k l) (fun l => [0] ++ l.map up)
  | 0, _ => SR.fail
  | k + 1, l => SR.atEnd.bind fun _ => SR.ite (SR.pure (φ := fun l => [0] ++ l.map up) l) ((SR.statement K K).bind fun x => by
      have := SR.gatherGo K k (l ++ [x])
      rw [List.map_append, ← List.append_assoc] at this
      exact this)
end
end Go.Proofs.Ytoggcdldoinbnaa.syn
