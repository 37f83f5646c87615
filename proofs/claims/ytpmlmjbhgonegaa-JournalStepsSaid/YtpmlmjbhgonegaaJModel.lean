/- What the journal's Commit does, as writes of rows of blocks. -/
import Derived.Test.YtpmlmjbhgonegaaJFinish
namespace Go.Proofs.Ytpmlmjbhgonegaa
open Go.RowKit

/-- Writes, one behind the other, up to the first that fails. -/
def jRow (f : Nat → Int × List UInt8) : Nat → Nat → DK → DK × Int
  | 0, _, D => (D, 0)
  | k + 1, i, D => if (D.write (f i).1 (f i).2).2 ≠ 0 then D.write (f i).1 (f i).2 else jRow f k (i + 1) (D.write (f i).1 (f i).2).1

theorem jRow_step (f : Nat → Int × List UInt8) (k i : Nat) (D D' : DK) (h : D.write (f i).1 (f i).2 = (D', 0)) : jRow f (k + 1) i D = jRow f k (i + 1) D' := by
  rw [jRow]; simp [h]
theorem jRow_bad (f : Nat → Int × List UInt8) (k i : Nat) (D D' : DK) (c : Int) (h : D.write (f i).1 (f i).2 = (D', c)) (hc : c ≠ 0) : jRow f (k + 1) i D = (D', c) := by
  rw [jRow]; simp [h, hc]
theorem jRow_under (f : Nat → Int × List UInt8) : ∀ (k i : Nat) (D : DK) (m : Int), D.under m → (jRow f k i D).1.under (m + k)
  | 0, _, D, m, h => by simpa [jRow] using h
  | k + 1, i, D, m, h => by
    unfold jRow
    split
    · exact (h.write _ _).mono (by omega)
    · exact (jRow_under f k (i + 1) _ (m + 1) (h.write _ _)).mono (by omega)

/-- The two bytes of a block's number. -/
def putByte (b : Int) : List UInt8 := [UInt8.ofNat (b.toNat / 256), UInt8.ofNat b.toNat]
def listBytes (l : List (Int × List UInt8)) : List UInt8 := l.flatMap fun p => putByte p.1
theorem listBytes_length : ∀ l, (listBytes l).length = 2 * l.length
  | [] => rfl
  | p :: l => by
    have := listBytes_length l
    simp only [listBytes, List.flatMap_cons, List.length_append, List.length_cons] at this ⊢
    rw [this]
    simp [putByte]
    omega
theorem listBytes_more {l : List (Int × List UInt8)} {k : Nat} {b : Int} {bs : List UInt8} (h : l[k]? = some (b, bs)) : listBytes (l.take (k + 1)) = listBytes (l.take k) ++ putByte b := by
  rw [List.take_add_one, h]
  simp [listBytes]
/-- A block of bytes, noughts behind them. -/
def padTo (l : List UInt8) : List UInt8 := l.take 64 ++ List.replicate (64 - (l.take 64).length) 0
theorem padTo_length (l : List UInt8) : (padTo l).length = 64 := by simp [padTo]; omega

def putsRow (at_ : Int) (l : List (Int × List UInt8)) (i : Nat) : Int × List UInt8 := (at_ + 7 + (i : Nat), (l.getD i (0, [])).2)
def listsRow (at_ : Int) (l : List (Int × List UInt8)) (i : Nat) : Int × List UInt8 := (at_ + 1 + (i : Nat), padTo ((listBytes l).drop (64 * i)))

def jCommit3 (D : DK) (at_ : Int) (g : Nat) (n : Nat) : DK × Int × Nat :=
  if (D.write at_ (headBytes (g + 1) n)).2 ≠ 0 then ((D.write at_ (headBytes (g + 1) n)).1, (D.write at_ (headBytes (g + 1) n)).2, g) else
  if n = 0 then ((D.write at_ (headBytes (g + 1) n)).1, 0, g + 1) else
  ((jFinish (D.write at_ (headBytes (g + 1) n)).1 at_ (g + 1) n).1, (jFinish (D.write at_ (headBytes (g + 1) n)).1 at_ (g + 1) n).2, g + 1)
def jCommit2 (D : DK) (at_ : Int) (g : Nat) (l : List (Int × List UInt8)) : DK × Int × Nat :=
  if (jRow (listsRow at_ l) ((2 * l.length + 63) / 64) 0 D).2 ≠ 0 then ((jRow (listsRow at_ l) ((2 * l.length + 63) / 64) 0 D).1, (jRow (listsRow at_ l) ((2 * l.length + 63) / 64) 0 D).2, g) else
  jCommit3 (jRow (listsRow at_ l) ((2 * l.length + 63) / 64) 0 D).1 at_ g l.length

/-- How the disk is behind Commit, what it answers, and how many groups the journal counts. -/
def jCommit (D : DK) (at_ : Int) (g : Nat) (l : List (Int × List UInt8)) (may : Bool) : DK × Int × Nat :=
  if may = false then (D, 20, g) else
  if (jRow (putsRow at_ l) l.length 0 D).2 ≠ 0 then ((jRow (putsRow at_ l) l.length 0 D).1, (jRow (putsRow at_ l) l.length 0 D).2, g) else
  jCommit2 (jRow (putsRow at_ l) l.length 0 D).1 at_ g l

theorem jCommit_puts {D D' : DK} {at_ : Int} {g : Nat} {l : List (Int × List UInt8)} {c : Int} (h : jRow (putsRow at_ l) l.length 0 D = (D', c)) (hc : c ≠ 0) : jCommit D at_ g l true = (D', c, g) := by
  unfold jCommit; simp [h, hc]
theorem jCommit_to2 {D D' : DK} {at_ : Int} {g : Nat} {l : List (Int × List UInt8)} (h : jRow (putsRow at_ l) l.length 0 D = (D', 0)) : jCommit D at_ g l true = jCommit2 D' at_ g l := by
  unfold jCommit; simp [h]
theorem jCommit2_lists {D D' : DK} {at_ : Int} {g : Nat} {l : List (Int × List UInt8)} {c : Int} (h : jRow (listsRow at_ l) ((2 * l.length + 63) / 64) 0 D = (D', c)) (hc : c ≠ 0) : jCommit2 D at_ g l = (D', c, g) := by
  unfold jCommit2; simp [h, hc]
theorem jCommit2_to3 {D D' : DK} {at_ : Int} {g : Nat} {l : List (Int × List UInt8)} (h : jRow (listsRow at_ l) ((2 * l.length + 63) / 64) 0 D = (D', 0)) : jCommit2 D at_ g l = jCommit3 D' at_ g l.length := by
  unfold jCommit2; simp [h]
theorem jCommit3_head {D D' : DK} {at_ : Int} {g n : Nat} {c : Int} (h : D.write at_ (headBytes (g + 1) n) = (D', c)) (hc : c ≠ 0) : jCommit3 D at_ g n = (D', c, g) := by
  unfold jCommit3; simp [h, hc]
theorem jCommit3_none {D D' : DK} {at_ : Int} {g : Nat} (h : D.write at_ (headBytes (g + 1) 0) = (D', 0)) : jCommit3 D at_ g 0 = (D', 0, g + 1) := by
  unfold jCommit3; simp [h]
theorem jCommit3_some {D D' : DK} {at_ : Int} {g n : Nat} (h : D.write at_ (headBytes (g + 1) n) = (D', 0)) (hn : n ≠ 0) : jCommit3 D at_ g n = ((jFinish D' at_ (g + 1) n).1, (jFinish D' at_ (g + 1) n).2, g + 1) := by
  unfold jCommit3; simp [h, hn]

theorem ownsRow_only {S : Nat → Prop} {w w' : World} {base n size : Nat} {e : TypeId} {v : Value} {xs : List Value} (h : w.ownsRow base e size v n xs) (k : Only S w w') (hs : ∀ g, base ≤ g → ¬ S g) : w'.ownsRow base e size v n xs := by
  refine ⟨h.1, ?_⟩
  rcases h.2 with hn | ⟨g, cap, cur, rfl, hb, hgg, rest⟩
  · exact .inl hn
  · exact .inr ⟨g, cap, cur, rfl, hb, k.keeps hgg (hs g hb), rest⟩

/-- What a slice of the call's own, of bytes, shows from its i-th on. -/
theorem ownsRow_row {w : World} {base n : Nat} {e : TypeId} {g cap : Nat} {l : List UInt8} (h : w.ownsRow base e 1 (.slice (some ⟨g, 0, none⟩) n cap) n (l.map bv)) (i : Nat) : RowAt w ⟨g, i, none⟩ (l.drop i) := by
  intro j b hj
  have := h.cells (g := g) rfl (i + j) (bv b) (by
    rw [List.getElem?_drop] at hj
    rw [List.getElem?_map, hj]; rfl)
  have h2 : (⟨g, i, none⟩ : Addr).add j = (⟨g, 0, none⟩ : Addr).add (i + j) := by
    unfold Addr.add
    split <;> split <;> simp_all
  rw [h2]
  exact this
end Go.Proofs.Ytpmlmjbhgonegaa
