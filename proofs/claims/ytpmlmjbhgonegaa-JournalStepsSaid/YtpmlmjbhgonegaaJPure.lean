/- The journal's plain law: what Commit and Open do to what the disk shows, wherever the power goes off. -/
import Derived.Test.YtpmlmjbhgonegaaJModel
namespace Go.Proofs.Ytpmlmjbhgonegaa
open Go.RowKit

/-- What a disk shows: bytes at each place. -/
abbrev Img := Int → List UInt8
def Img.put (G : Img) (i : Int) (l : List UInt8) : Img := fun n => if n = i then l else G n

theorem get_wrote (D : DK) (i : Int) (l : List UInt8) : (D.wrote i l).get = Img.put D.get i l := by
  funext n
  unfold DK.get Img.put
  simp only [DK.wrote]
  by_cases h : n = i
  · rw [if_pos h, if_pos h]; rfl
  · rw [if_neg h, if_neg h]

/-- A write to a disk that is on, of a block that there is: done, or the power goes off ahead of it. -/
theorem write_on (D : DK) (i : Int) (l : List UInt8) (hoff : D.off = false) (h0 : 0 ≤ i) (h1 : i < D.len) (hl : l.length = 64) :
    (D.fuse ≠ 0 ∧ D.write i l = (D.wrote i l, 0)) ∨ (D.fuse = 0 ∧ D.write i l = (D.blown, 2)) := by
  have hc : D.code i = 0 := by
    unfold DK.code
    rw [hoff]
    rw [if_neg (by simp), if_neg (by omega)]
  unfold DK.write
  rw [if_neg (by rw [hc]; simp), if_neg (by omega)]
  by_cases hf : D.fuse = 0
  · right; exact ⟨hf, by rw [if_pos hf]⟩
  · left; exact ⟨hf, by rw [if_neg hf]⟩

/-- How a disk comes of another: as long; on, and without a fuse if it had none; or off. -/
structure Next (D D' : DK) (c : Int) : Prop where
  len : D'.len = D.len
  on : c = 0 → D'.off = false ∧ (D.fuse = -1 → D'.fuse = -1) ∧ (-1 ≤ D.fuse → -1 ≤ D'.fuse)
  off : c ≠ 0 → c = 2 ∧ D'.off = true ∧ D'.fuse = -1 ∧ D.fuse ≠ -1

theorem Next.refl (D : DK) (h : D.off = false) : Next D D 0 := ⟨rfl, fun _ => ⟨h, fun h => h, fun h => h⟩, fun h => absurd rfl h⟩
theorem Next.trans {D D' D'' : DK} {c : Int} (h : Next D D' 0) (k : Next D' D'' c) : Next D D'' c :=
  ⟨k.len.trans h.len, fun e => ⟨(k.on e).1, fun f => (k.on e).2.1 ((h.on rfl).2.1 f), fun f => (k.on e).2.2 ((h.on rfl).2.2 f)⟩, fun e => ⟨(k.off e).1, (k.off e).2.1, (k.off e).2.2.1, fun f => (k.off e).2.2.2 ((h.on rfl).2.1 f)⟩⟩

theorem write_next (D : DK) (i : Int) (l : List UInt8) (hoff : D.off = false) (h0 : 0 ≤ i) (h1 : i < D.len) (hl : l.length = 64) :
    Next D (D.write i l).1 (D.write i l).2 ∧ ((D.write i l).2 = 0 → (D.write i l).1.get = Img.put D.get i l) ∧ ((D.write i l).2 ≠ 0 → (D.write i l).1.get = D.get) := by
  rcases write_on D i l hoff h0 h1 hl with ⟨hf, e⟩ | ⟨hf, e⟩
  · rw [e]
    refine ⟨⟨rfl, fun _ => ⟨hoff, fun h => ?_, fun h => ?_⟩, fun h => absurd rfl h⟩, fun _ => get_wrote D i l, fun h => absurd rfl h⟩
    · simp only [DK.wrote]; rw [if_neg (by omega)]; exact h
    · simp only [DK.wrote]; split <;> omega
  · rw [e]
    exact ⟨⟨rfl, fun h => absurd h (show ¬ (2 : Int) = 0 by decide), fun _ => ⟨rfl, rfl, rfl, by omega⟩⟩, fun h => absurd h (show ¬ (2 : Int) = 0 by decide), fun _ => rfl⟩

/-- A row of writes, done. -/
def Img.row (f : Nat → Int × List UInt8) : Nat → Nat → Img → Img
  | 0, _, G => G
  | k + 1, i, G => Img.row f k (i + 1) (G.put (f i).1 (f i).2)

theorem jRow_spec (f : Nat → Int × List UInt8) (len : Int) : ∀ (k i : Nat) (D : DK), D.off = false → D.len = len → (∀ j, i ≤ j → j < i + k → 0 ≤ (f j).1 ∧ (f j).1 < len ∧ (f j).2.length = 64) →
    Next D (jRow f k i D).1 (jRow f k i D).2 ∧ ((jRow f k i D).2 = 0 → (jRow f k i D).1.get = Img.row f k i D.get) ∧ ∃ m, m ≤ k ∧ (jRow f k i D).1.get = Img.row f m i D.get
  | 0, i, D, hoff, _, _ => ⟨.refl D hoff, fun _ => rfl, 0, Nat.le_refl _, rfl⟩
  | k + 1, i, D, hoff, hlen, hf => by
    obtain ⟨f1, f2, f3⟩ := hf i (Nat.le_refl _) (by omega)
    obtain ⟨w1, w2, w3⟩ := write_next D (f i).1 (f i).2 hoff f1 (by omega) f3
    unfold jRow
    by_cases hc : (D.write (f i).1 (f i).2).2 = 0
    · rw [if_neg (by simpa using hc)]
      rw [hc] at w1
      obtain ⟨r1, r2, m, r3, r4⟩ := jRow_spec f len k (i + 1) (D.write (f i).1 (f i).2).1 (w1.on rfl).1 (w1.len.trans hlen) (fun j h1 h2 => hf j (by omega) (by omega))
      refine ⟨w1.trans r1, fun e => ?_, m + 1, by omega, ?_⟩
      · rw [r2 e, w2 hc]; rfl
      · rw [r4, w2 hc]; rfl
    · rw [if_pos hc]
      exact ⟨w1, fun e => absurd e hc, 0, by omega, w3 hc⟩

/-- What a row of writes leaves: the blocks that it does not name. -/
theorem Img.row_other (f : Nat → Int × List UInt8) (n : Int) : ∀ (k i : Nat) (G : Img), (∀ j, i ≤ j → j < i + k → (f j).1 ≠ n) → Img.row f k i G n = G n
  | 0, _, _, _ => rfl
  | k + 1, i, G, h => by
    unfold Img.row
    rw [Img.row_other f n k (i + 1) _ (fun j h1 h2 => h j (by omega) (by omega))]
    unfold Img.put
    rw [if_neg (fun e => h i (Nat.le_refl _) (by omega) e.symm)]

/-- And a block that just one of it names. -/
theorem Img.row_at (f : Nat → Int × List UInt8) (j : Nat) : ∀ (k i : Nat) (G : Img), i ≤ j → j < i + k → (∀ a, i ≤ a → a < i + k → a ≠ j → (f a).1 ≠ (f j).1) → Img.row f k i G (f j).1 = (f j).2
  | 0, i, _, h1, h2, _ => by omega
  | k + 1, i, G, h1, h2, h => by
    unfold Img.row
    by_cases hij : i = j
    · subst hij
      rw [Img.row_other f (f i).1 k (i + 1) _ (fun a h3 h4 => h a (by omega) (by omega) (by omega))]
      unfold Img.put
      rw [if_pos rfl]
    · exact Img.row_at f j k (i + 1) _ (by omega) (by omega) (fun a h3 h4 h5 => h a (by omega) (by omega) h5)

/-! The lists. -/
theorem listBytes_at : ∀ (l : List (Int × List UInt8)) (i : Nat) (b : Int) (bs : List UInt8), l[i]? = some (b, bs) → (listBytes l)[2 * i]? = some (UInt8.ofNat (b.toNat / 256)) ∧ (listBytes l)[2 * i + 1]? = some (UInt8.ofNat b.toNat)
  | [], i, b, bs, h => by simp at h
  | p :: l, 0, b, bs, h => by
    simp at h
    subst h
    simp [listBytes, putByte]
  | p :: l, i + 1, b, bs, h => by
    have ih := listBytes_at l i b bs (by simpa using h)
    have e : listBytes (p :: l) = UInt8.ofNat (p.1.toNat / 256) :: UInt8.ofNat p.1.toNat :: listBytes l := by simp [listBytes, putByte]
    rw [e, show 2 * (i + 1) = 2 * i + 2 by omega, show 2 * i + 2 + 1 = (2 * i + 1) + 2 by omega]
    simpa using ih

theorem padTo_at (l : List UInt8) (j : Nat) (h : j < 64) (b : UInt8) (hb : l[j]? = some b) : (padTo l).getD j 0 = b := by
  have hl : j < l.length := by
    rcases Nat.lt_or_ge j l.length with h' | h'
    · exact h'
    · rw [List.getElem?_eq_none h'] at hb; cases hb
  unfold padTo
  rw [List.getD_eq_getElem?_getD, List.getElem?_append_left (by simp; omega), List.getElem?_take, if_pos h, hb]
  rfl

/-- What the lists' blocks tell of where a block goes. -/
theorem list_place (l : List (Int × List UInt8)) (i : Nat) (b : Int) (bs : List UInt8) (h : l[i]? = some (b, bs)) (h0 : 0 ≤ b) (h1 : b < 65536) :
    ((((padTo ((listBytes l).drop (64 * (i / 32)))).getD (i % 32 * 2) 0).toNat * 256 + ((padTo ((listBytes l).drop (64 * (i / 32)))).getD (i % 32 * 2 + 1) 0).toNat : Nat) : Int) = b := by
  obtain ⟨g1, g2⟩ := listBytes_at l i b bs h
  rw [padTo_at _ (i % 32 * 2) (by omega) (UInt8.ofNat (b.toNat / 256)) (by rw [List.getElem?_drop, show 64 * (i / 32) + i % 32 * 2 = 2 * i by omega]; exact g1)]
  rw [padTo_at _ (i % 32 * 2 + 1) (by omega) (UInt8.ofNat b.toNat) (by rw [List.getElem?_drop, show 64 * (i / 32) + (i % 32 * 2 + 1) = 2 * i + 1 by omega]; exact g2)]
  rw [UInt8.toNat_ofNat', UInt8.toNat_ofNat']
  omega

/-! Groups. -/
def slot (l : List (Int × List UInt8)) (i : Nat) : Int × List UInt8 := l.getD i (0, [])
theorem slot_some {l : List (Int × List UInt8)} {i : Nat} {x : Int × List UInt8} (h : l[i]? = some x) : slot l i = x := by
  unfold slot; rw [List.getD_eq_getElem?_getD, h]; rfl
theorem slot_lt {l : List (Int × List UInt8)} {i : Nat} (h : i < l.length) : l[i]? = some (slot l i) := by
  rw [slot_some (List.getElem?_eq_getElem h)]; exact List.getElem?_eq_getElem h

/-- Is a block one of the journal's. -/
def inJ (at_ n : Int) : Prop := at_ ≤ n ∧ n < at_ + 199

/-- Puts that are a group. -/
structure IsGroup (len at_ : Int) (l : List (Int × List UInt8)) : Prop where
  few : l.length ≤ 192
  lo : ∀ i, i < l.length → 0 ≤ (slot l i).1
  hi : ∀ i, i < l.length → (slot l i).1 < len
  own : ∀ i, i < l.length → ¬ inJ at_ (slot l i).1
  full : ∀ i, i < l.length → (slot l i).2.length = 64
  once : ∀ i j, i < l.length → j < l.length → i ≠ j → (slot l i).1 ≠ (slot l j).1

/-- The group is done: what the disk shows. -/
def applied (l : List (Int × List UInt8)) (G : Img) : Img := Img.row (slot l) l.length 0 G

/-- Lists and blocks of a group stand in the journal. -/
structure Held (at_ : Int) (l : List (Int × List UInt8)) (G : Img) : Prop where
  place : ∀ i, i < l.length → ((((G (at_ + 1 + (i / 32 : Nat))).getD (i % 32 * 2) 0).toNat * 256 + ((G (at_ + 1 + (i / 32 : Nat))).getD (i % 32 * 2 + 1) 0).toNat : Nat) : Int) = (slot l i).1
  bytes : ∀ i, i < l.length → G (at_ + 7 + (i : Nat)) = (slot l i).2

theorem Held.same {at_ : Int} {l : List (Int × List UInt8)} {G G' : Img} (h : Held at_ l G) (hn : l.length ≤ 192) (hs : ∀ n, at_ + 1 ≤ n → n < at_ + 199 → G' n = G n) : Held at_ l G' :=
  ⟨fun i hi => by rw [hs _ (by omega) (by omega)]; exact h.place i hi, fun i hi => by rw [hs _ (by omega) (by omega)]; exact h.bytes i hi⟩

theorem code_on {D : DK} {i : Int} (hoff : D.off = false) (h0 : 0 ≤ i) (h1 : i < D.len) : D.code i = 0 := by
  unfold DK.code
  rw [hoff, if_neg (by simp), if_neg (by omega)]

theorem jSteps_row {len at_ : Int} {l : List (Int × List UInt8)} (hg : IsGroup len at_ l) (ha : 0 ≤ at_) (ha2 : at_ + 199 ≤ len) : ∀ (k i : Nat) (D : DK), D.off = false → D.len = len → Held at_ l D.get → i + k ≤ l.length → jSteps at_ k i D = jRow (slot l) k i D
  | 0, _, _, _, _, _, _ => rfl
  | k + 1, i, D, hoff, hlen, hh, hik => by
    have hfew := hg.few
    have hp : jPlace D at_ i = ((slot l i).1, 0) := by
      unfold jPlace
      rw [if_pos (code_on hoff (by omega) (by omega)), hh.place i (by omega)]
    have hc : D.code (at_ + 7 + (i : Nat)) = 0 := code_on hoff (by omega) (by omega)
    have hb := hh.bytes i (by omega)
    rcases write_on D (slot l i).1 (slot l i).2 hoff (hg.lo i (by omega)) (by rw [hlen]; exact hg.hi i (by omega)) (hg.full i (by omega)) with ⟨hf, e⟩ | ⟨hf, e⟩
    · rw [jSteps_step at_ k i D _ _ hp hc (by rw [hb]; exact e), jRow_step _ k i D _ e]
      refine jSteps_row hg ha ha2 k (i + 1) _ hoff hlen (hh.same hfew (fun n h1 h2 => ?_)) (by omega)
      rw [get_wrote]
      unfold Img.put
      rw [if_neg (fun e => hg.own i (by omega) (by unfold inJ; omega))]
    · rw [jSteps_bad at_ k i D _ _ 2 hp hc (by rw [hb]; exact e) (by decide), jRow_bad _ k i D _ 2 e (by decide)]
      rfl

theorem applied_named {len at_ : Int} {l : List (Int × List UInt8)} (hg : IsGroup len at_ l) (G : Img) {j : Nat} (hj : j < l.length) : applied l G (slot l j).1 = (slot l j).2 :=
  Img.row_at (slot l) j l.length 0 G (by omega) (by omega) (fun a _ h2 h3 => hg.once a j (by omega) hj h3)
theorem applied_other {l : List (Int × List UInt8)} (G : Img) {n : Int} (h : ∀ j, j < l.length → (slot l j).1 ≠ n) : applied l G n = G n :=
  Img.row_other (slot l) n l.length 0 G (fun j _ h2 => h j (by omega))
theorem applied_own {len at_ : Int} {l : List (Int × List UInt8)} (hg : IsGroup len at_ l) (G : Img) {n : Int} (h : inJ at_ n) : applied l G n = G n :=
  applied_other G (fun j hj e => hg.own j hj (e ▸ h))
theorem row_own {len at_ : Int} {l : List (Int × List UInt8)} (hg : IsGroup len at_ l) (G : Img) {n : Int} (h : inJ at_ n) (m : Nat) (hm : m ≤ l.length) : Img.row (slot l) m 0 G n = G n :=
  Img.row_other (slot l) n m 0 G (fun j _ h2 e => hg.own j (by omega) (e ▸ h))
theorem named_or (l : List (Int × List UInt8)) (n : Int) : (∃ j, j < l.length ∧ (slot l j).1 = n) ∨ ∀ j, j < l.length → (slot l j).1 ≠ n := by
  by_cases h : ∃ j, j < l.length ∧ (slot l j).1 = n
  · exact .inl h
  · exact .inr fun j hj e => h ⟨j, hj, e⟩

/-- A group done over its own beginning is that group done. -/
theorem applied_over {len at_ : Int} {l : List (Int × List UInt8)} (hg : IsGroup len at_ l) (G : Img) (m : Nat) (hm : m ≤ l.length) : applied l (Img.row (slot l) m 0 G) = applied l G := by
  funext n
  rcases named_or l n with ⟨j, hj, rfl⟩ | h
  · rw [applied_named hg _ hj, applied_named hg _ hj]
  · rw [applied_other _ h, applied_other _ h]
    exact Img.row_other (slot l) n m 0 G (fun j _ h2 => h j (by omega))
theorem applied_same {at_ : Int} {l : List (Int × List UInt8)} {G G' : Img} (h : ∀ n, ¬ inJ at_ n → G n = G' n) (n : Int) (hn : ¬ inJ at_ n) : applied l G n = applied l G' n := by
  unfold applied
  have : ∀ (k i : Nat) (A B : Img), (∀ n, ¬ inJ at_ n → A n = B n) → Img.row (slot l) k i A n = Img.row (slot l) k i B n := by
    intro k
    induction k with
    | zero => intro i A B h; exact h n hn
    | succ k ih =>
      intro i A B h
      unfold Img.row
      refine ih (i + 1) _ _ (fun q hq => ?_)
      unfold Img.put
      split
      · rfl
      · exact h q hq
  exact this _ _ _ _ h

/-- No group is at hand; g were done, and the blocks that are not the journal's show E. -/
structure Clean (at_ : Int) (g : Nat) (G E : Img) : Prop where
  head : G at_ = headBytes g 0
  out : ∀ n, ¬ inJ at_ n → G n = E n
/-- One is, that counts already: behind it the blocks show E. -/
structure Pend (len at_ : Int) (g : Nat) (l : List (Int × List UInt8)) (G E : Img) : Prop where
  group : IsGroup len at_ l
  some : l ≠ []
  head : G at_ = headBytes g l.length
  held : Held at_ l G
  out : ∀ n, ¬ inJ at_ n → applied l G n = E n
/-- What is to be found. -/
def Sound (len at_ : Int) (g : Nat) (G E : Img) : Prop := Clean at_ g G E ∨ ∃ l, Pend len at_ g l G E

/-- finish, of a group that is at hand. -/
theorem jFinish_spec {len at_ : Int} {g : Nat} {l : List (Int × List UInt8)} {D : DK} {E : Img} (ha : 0 ≤ at_) (ha2 : at_ + 199 ≤ len) (hoff : D.off = false) (hlen : D.len = len) (hp : Pend len at_ g l D.get E) :
    Next D (jFinish D at_ g l.length).1 (jFinish D at_ g l.length).2 ∧ ((jFinish D at_ g l.length).2 = 0 → Clean at_ g (jFinish D at_ g l.length).1.get E) ∧ Sound len at_ g (jFinish D at_ g l.length).1.get E := by
  have hs := jSteps_row hp.group ha ha2 l.length 0 D hoff hlen hp.held (by omega)
  obtain ⟨r1, r2, m, r3, r4⟩ := jRow_spec (slot l) len l.length 0 D hoff hlen (fun j _ h2 => ⟨hp.group.lo j (by omega), hp.group.hi j (by omega), hp.group.full j (by omega)⟩)
  have hmid : ∀ m, m ≤ l.length → Pend len at_ g l (Img.row (slot l) m 0 D.get) E := fun m hm => by
    refine ⟨hp.group, hp.some, ?_, hp.held.same hp.group.few (fun n h1 h2 => row_own hp.group _ (by unfold inJ; omega) m hm), fun n hn => ?_⟩
    · rw [row_own hp.group _ (by unfold inJ; omega) m hm]; exact hp.head
    · rw [applied_over hp.group _ m hm]; exact hp.out n hn
  unfold jFinish
  rw [hs]
  by_cases hc : (jRow (slot l) l.length 0 D).2 = 0
  · rw [if_neg (by simpa using hc)]
    rw [hc] at r1
    obtain ⟨w1, w2, w3⟩ := write_next (jRow (slot l) l.length 0 D).1 at_ (headBytes g 0) (r1.on rfl).1 ha (by rw [r1.len, hlen]; omega) (headBytes_length g 0)
    have hrow := r2 hc
    refine ⟨r1.trans w1, fun e => ⟨?_, fun n hn => ?_⟩, ?_⟩
    · rw [w2 e]; unfold Img.put; rw [if_pos rfl]
    · rw [w2 e]
      unfold Img.put
      rw [if_neg (fun e => hn (by unfold inJ; omega)), hrow]
      exact hp.out n hn
    · by_cases e : ((jRow (slot l) l.length 0 D).1.write at_ (headBytes g 0)).2 = 0
      · left
        refine ⟨?_, fun n hn => ?_⟩
        · rw [w2 e]; unfold Img.put; rw [if_pos rfl]
        · rw [w2 e]
          unfold Img.put
          rw [if_neg (fun e => hn (by unfold inJ; omega)), hrow]
          exact hp.out n hn
      · right
        refine ⟨l, ?_⟩
        rw [w3 e, hrow]
        exact hmid l.length (Nat.le_refl _)
  · rw [if_pos hc]
    refine ⟨r1, fun e => absurd e hc, .inr ⟨l, ?_⟩⟩
    rw [r4]
    exact hmid m r3

/-- The rows of writes ahead of the head, of a group. -/
theorem puts_bound {len at_ : Int} {l : List (Int × List UInt8)} (hg : IsGroup len at_ l) (ha : 0 ≤ at_) (ha2 : at_ + 199 ≤ len) : ∀ j, 0 ≤ j → j < 0 + l.length → 0 ≤ (putsRow at_ l j).1 ∧ (putsRow at_ l j).1 < len ∧ (putsRow at_ l j).2.length = 64 := by
  intro j _ h2
  have := hg.few
  exact ⟨by simp [putsRow]; omega, by simp [putsRow]; omega, hg.full j (by omega)⟩
theorem lists_bound {len at_ : Int} {l : List (Int × List UInt8)} (hg : IsGroup len at_ l) (ha : 0 ≤ at_) (ha2 : at_ + 199 ≤ len) : ∀ j, 0 ≤ j → j < 0 + (2 * l.length + 63) / 64 → 0 ≤ (listsRow at_ l j).1 ∧ (listsRow at_ l j).1 < len ∧ (listsRow at_ l j).2.length = 64 := by
  intro j _ h2
  have := hg.few
  exact ⟨by simp [listsRow]; omega, by simp [listsRow]; omega, padTo_length _⟩

/-- Commit, of a group, at a journal at which none is at hand. -/
theorem jCommit_spec {len at_ : Int} {g : Nat} {l : List (Int × List UInt8)} {D : DK} {E : Img} (ha : 0 ≤ at_) (ha2 : at_ + 199 ≤ len) (hl : len ≤ 4096) (hoff : D.off = false) (hlen : D.len = len) (hg : IsGroup len at_ l) (hcl : Clean at_ g D.get E) :
    Next D (jCommit D at_ g l true).1 (jCommit D at_ g l true).2.1 ∧ ((jCommit D at_ g l true).2.1 = 0 → (jCommit D at_ g l true).2.2 = g + 1 ∧ Clean at_ (g + 1) (jCommit D at_ g l true).1.get (applied l E)) ∧
      (Sound len at_ g (jCommit D at_ g l true).1.get E ∨ Sound len at_ (g + 1) (jCommit D at_ g l true).1.get (applied l E)) := by
  have hfew := hg.few
  obtain ⟨r1, r2, m, r3, r4⟩ := jRow_spec (putsRow at_ l) len l.length 0 D hoff hlen (puts_bound hg ha ha2)
  have hout1 : ∀ m, m ≤ l.length → ∀ n, (n = at_ ∨ ¬ inJ at_ n) → Img.row (putsRow at_ l) m 0 D.get n = D.get n := fun m hm n hn =>
    Img.row_other _ n m 0 _ (fun j _ h2 e => by
      simp only [putsRow] at e
      rcases hn with h | h
      · omega
      · exact h (by unfold inJ; omega))
  unfold jCommit
  rw [if_neg (by decide)]
  by_cases hc : (jRow (putsRow at_ l) l.length 0 D).2 = 0
  · rw [if_neg (by simpa using hc)]
    rw [hc] at r1
    have e1 := r2 hc
    generalize hD1 : (jRow (putsRow at_ l) l.length 0 D).1 = D1 at *
    have hlen1 : D1.len = len := r1.len.trans hlen
    obtain ⟨s1, s2, q, s3, s4⟩ := jRow_spec (listsRow at_ l) len ((2 * l.length + 63) / 64) 0 D1 (r1.on rfl).1 hlen1 (lists_bound hg ha ha2)
    have hout2 : ∀ q, q ≤ (2 * l.length + 63) / 64 → ∀ n, (n = at_ ∨ ¬ inJ at_ n) → Img.row (listsRow at_ l) q 0 D1.get n = D1.get n := fun q hq n hn =>
      Img.row_other _ n q 0 _ (fun j _ h2 e => by
        simp only [listsRow] at e
        rcases hn with h | h
        · omega
        · exact h (by unfold inJ; omega))
    have hcl1 : Clean at_ g D1.get E := by
      refine ⟨?_, fun n hn => ?_⟩
      · rw [e1, hout1 _ (Nat.le_refl _) at_ (.inl rfl)]; exact hcl.head
      · rw [e1, hout1 _ (Nat.le_refl _) n (.inr hn)]; exact hcl.out n hn
    unfold jCommit2
    by_cases hc2 : (jRow (listsRow at_ l) ((2 * l.length + 63) / 64) 0 D1).2 = 0
    · rw [if_neg (by simpa using hc2)]
      rw [hc2] at s1
      have e2 := s2 hc2
      generalize hD2 : (jRow (listsRow at_ l) ((2 * l.length + 63) / 64) 0 D1).1 = D2 at *
      have hlen2 : D2.len = len := s1.len.trans hlen1
      have hcl2 : Clean at_ g D2.get E := by
        refine ⟨?_, fun n hn => ?_⟩
        · rw [e2, hout2 _ (Nat.le_refl _) at_ (.inl rfl)]; exact hcl1.head
        · rw [e2, hout2 _ (Nat.le_refl _) n (.inr hn)]; exact hcl1.out n hn
      have hheld : Held at_ l D2.get := by
        refine ⟨fun i hi => ?_, fun i hi => ?_⟩
        · have hat := Img.row_at (listsRow at_ l) (i / 32) ((2 * l.length + 63) / 64) 0 D1.get (by omega) (by omega) (fun a _ _ h3 e => by simp only [listsRow] at e; omega)
          rw [e2]
          simp only [listsRow] at hat
          rw [hat]
          have hs := slot_lt hi
          have := hg.hi i hi
          exact list_place l i (slot l i).1 (slot l i).2 hs (hg.lo i hi) (by omega)
        · rw [e2, Img.row_other _ _ _ 0 _ (fun j _ h2 e => by simp only [listsRow] at e; omega), e1]
          have hat := Img.row_at (putsRow at_ l) i l.length 0 D.get (by omega) (by omega) (fun a _ _ h3 e => by simp only [putsRow] at e; omega)
          simp only [putsRow] at hat
          rw [hat]
          rfl
      obtain ⟨w1, w2, w3⟩ := write_next D2 at_ (headBytes (g + 1) l.length) (s1.on rfl).1 ha (by rw [hlen2]; omega) (headBytes_length _ _)
      unfold jCommit3
      by_cases hc3 : (D2.write at_ (headBytes (g + 1) l.length)).2 = 0
      · rw [if_neg (by simpa using hc3)]
        rw [hc3] at w1
        have e3 := w2 hc3
        generalize hD3 : (D2.write at_ (headBytes (g + 1) l.length)).1 = D3 at *
        have hout3 : ∀ n, n ≠ at_ → D3.get n = D2.get n := fun n hn => by rw [e3]; unfold Img.put; rw [if_neg hn]
        have hhead : D3.get at_ = headBytes (g + 1) l.length := by rw [e3]; unfold Img.put; rw [if_pos rfl]
        by_cases hn0 : l.length = 0
        · rw [if_pos hn0]
          rw [hn0] at hhead
          have hap : ∀ G : Img, applied l G = G := fun G => by unfold applied; rw [hn0]; rfl
          have hcl3 : Clean at_ (g + 1) D3.get (applied l E) := by
            refine ⟨hhead, fun n hn => ?_⟩
            rw [hap, hout3 n (fun e => hn (by unfold inJ; omega))]
            exact hcl2.out n hn
          exact ⟨r1.trans (s1.trans w1), fun _ => ⟨rfl, hcl3⟩, .inr (.inl hcl3)⟩
        · rw [if_neg hn0]
          have hpend : Pend len at_ (g + 1) l D3.get (applied l E) := by
            refine ⟨hg, fun e => hn0 (by rw [e]; rfl), hhead, hheld.same hfew (fun n h1 h2 => hout3 n (by omega)), fun n hn => ?_⟩
            refine applied_same (at_ := at_) (fun q hq => ?_) n hn
            rw [hout3 q (fun e => hq (by unfold inJ; omega))]
            exact hcl2.out q hq
          obtain ⟨f1, f2, f3⟩ := jFinish_spec ha ha2 (w1.on rfl).1 (w1.len.trans hlen2) hpend
          exact ⟨r1.trans (s1.trans (w1.trans f1)), fun e => ⟨rfl, f2 e⟩, .inr f3⟩
      · rw [if_pos hc3]
        refine ⟨r1.trans (s1.trans w1), fun e => absurd e hc3, .inl (.inl ?_)⟩
        simp only
        rw [w3 hc3]
        exact hcl2
    · rw [if_pos hc2]
      refine ⟨r1.trans s1, fun e => absurd e hc2, .inl (.inl ⟨?_, fun n hn => ?_⟩)⟩
      · simp only
        rw [s4, hout2 q s3 at_ (.inl rfl)]; exact hcl1.head
      · simp only
        rw [s4, hout2 q s3 n (.inr hn)]; exact hcl1.out n hn
  · rw [if_pos hc]
    refine ⟨r1, fun e => absurd e hc, .inl (.inl ⟨?_, fun n hn => ?_⟩)⟩
    · simp only
      rw [r4, hout1 m r3 at_ (.inl rfl)]; exact hcl.head
    · simp only
      rw [r4, hout1 m r3 n (.inr hn)]; exact hcl.out n hn
end Go.Proofs.Ytpmlmjbhgonegaa
