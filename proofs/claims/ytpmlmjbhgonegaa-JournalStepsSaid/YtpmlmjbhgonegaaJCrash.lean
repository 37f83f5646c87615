/- JournalCrashes' words: a journal on a disk whose power may go off. -/
import Derived.Test.YtpmlmjbhgonegaaJOpsArg
import Derived.Test.YtpmlmjbhgonegaaJShown
namespace Go.Proofs.Ytpmlmjbhgonegaa
open Go.RowKit
set_option linter.unusedVariables false

theorem PutsAt.below {T S : Nat → Prop} {B : Nat} {w w' : World} {x : Option Addr} {l : List (Int × List UInt8)} (h : PutsAt (fun i => B ≤ i) w x l) (k : Below B w w') (hT : ∀ i, T i → B ≤ i) : PutsAt T w' x l := by
  intro i b bs hi
  obtain ⟨ad, a, c, hx, c0, c1, hsl, ht, hta⟩ := h i b bs hi
  refine ⟨ad, a, c, hx, (k.cell (p := ad.add (i * 2)) (by rw [add_block]; exact Nat.not_le.1 ht)).trans c0, (k.cell (p := ⟨(ad.add (i * 2)).block, (ad.add (i * 2)).off + 1, none⟩) (by simp only [add_block]; exact Nat.not_le.1 ht)).trans c1, ⟨fun s e j q hq => ?_, hsl.there⟩, fun e => ht (hT _ e), fun s e hl h2 => hta s e hl (hT _ h2)⟩
  have hne : bs ≠ [] := fun e => by rw [e] at hq; simp at hq
  have h1 := hsl.row s e j q hq
  exact (k.cell (p := s.add j) (by rw [add_block]; exact Nat.not_le.1 (hta s e hne))).trans h1

theorem under_booted {D : DK} {m : Int} (h : D.under m) : D.booted.under m := ⟨by show (-1 : Int) ≤ _; omega, h.lo, h.hi⟩
theorem under_fused {D : DK} {m : Int} (h : D.under m) (i : Int) (hi : I64 i) : (D.fused i).under m := by
  obtain ⟨h1, h2⟩ := hi
  unfold DK.fused
  split
  · exact h
  · refine ⟨?_, h.lo, h.hi⟩
    show (if i < -1 then -1 else i) ≤ 9223372036854775807
    split <;> omega
theorem fused_on {D : DK} (i : Int) (h : D.off = false) : (D.fused i).off = false := by
  unfold DK.fused
  rw [if_neg (by rw [h]; simp)]
  exact h
theorem fused_get (D : DK) (i : Int) : (D.fused i).get = D.get := by unfold DK.fused; split <;> rfl
theorem fused_len (D : DK) (i : Int) : (D.fused i).len = D.len := by unfold DK.fused; split <;> rfl
theorem booted_get (D : DK) : D.booted.get = D.get := rfl

/-- Which group of two was the last. -/
def Which (at_ : Int) (n : Nat) (E : Img) (sm : Bool) (hl : List (Int × List UInt8)) (g : Nat) (F : Img) : Prop :=
  (g = n ∧ F = E) ∨ (sm = true ∧ IsGroup 259 at_ hl ∧ g = n + 1 ∧ F = applied hl E)
def Mode (D : DK) (at_ : Int) (gj n : Nat) (E : Img) (sm fr : Bool) (hl : List (Int × List UInt8)) : Prop :=
  (D.off = false ∧ Clean at_ n D.get E ∧ gj = n ∧ sm = false ∧ fr = false) ∨ (D.off = true ∧ ∃ g F, Sound 259 at_ g D.get F ∧ Which at_ n E sm hl g F)

theorem Mode.sound {D : DK} {at_ : Int} {gj n : Nat} {E : Img} {sm fr : Bool} {hl : List (Int × List UInt8)} (h : Mode D at_ gj n E sm fr hl) : ∃ g F, Sound 259 at_ g D.get F ∧ Which at_ n E sm hl g F := by
  rcases h with ⟨_, h, _⟩ | ⟨_, h⟩
  · exact ⟨n, E, .inl h, .inl ⟨rfl, rfl⟩⟩
  · exact h

/-- What stays over the calls. -/
structure Cr (B : Nat) (w0 w : World) (p r jb : Nat) (D : DK) (at_ : Int) (gj : Nat) (m : Int) (E : Img) (hv : Value) : Prop where
  j : JSt B w0 w p r D jb at_ (gj : Nat)
  len : D.len = 259
  under : D.under m
  has : HasAt B w hv (rowsTo at_ E 259)
section
variable {B : Nat} {w0 w w' : World} {p r jb : Nat} {D : DK} {at_ : Int} {gj : Nat} {m : Int} {E : Img} {hv : Value}
theorem Cr.grow (h : Cr B w0 w p r jb D at_ gj m E hv) (k : Only (fun _ => False) w w') : Cr B w0 w' p r jb D at_ gj m E hv :=
  ⟨h.j.same k, h.len, h.under, h.has.only k (fun _ e => e.elim)⟩
theorem Cr.drew (h : Cr B w0 w p r jb D at_ gj m E hv) : Cr B w0 w.drew p r jb D at_ gj m E hv := ⟨h.j.drew, h.len, h.under, h.has.drew⟩
theorem Cr.mono (h : Cr B w0 w p r jb D at_ gj m E hv) {m' : Int} (hm : m ≤ m') : Cr B w0 w p r jb D at_ gj m' E hv := ⟨h.j, h.len, h.under.mono hm, h.has⟩
/-- A call that writes the disk alone. -/
theorem Cr.two (h : Cr B w0 w p r jb D at_ gj m E hv) {D' : DK} (s : DSt B w0 w' p r D') (o : Only (Two p r) w w') (hl : D'.len = 259) {m' : Int} (hu : D'.under m') : Cr B w0 w' p r jb D' at_ gj m' E hv :=
  ⟨h.j.next s o, hl, hu, h.has.only o h.j.st.noRow⟩
theorem Cr.three (h : Cr B w0 w p r jb D at_ gj m E hv) {D' : DK} {g' : Nat} (s : JSt B w0 w' p r D' jb at_ (g' : Nat)) (o : Only (Three p r jb) w w') (hl : D'.len = 259) {m' : Int} (hu : D'.under m') : Cr B w0 w' p r jb D' at_ g' m' E hv :=
  ⟨s, hl, hu, h.has.only o h.j.noRow⟩
theorem Cr.other (h : Cr B w0 w p r jb D at_ gj m E hv) {j2 g2 : Nat} (s : JSt B w0 w p r D j2 at_ (g2 : Nat)) : Cr B w0 w p r j2 D at_ g2 m E hv := ⟨s, h.len, h.under, h.has⟩
theorem Cr.three_ge (h : Cr B w0 w p r jb D at_ gj m E hv) : ∀ i, Three p r jb i → B ≤ i := by
  rintro i (rfl | rfl | rfl)
  · exact h.j.st.hp
  · exact h.j.st.hr
  · exact h.j.hj

theorem Cr.boot (h : Cr B w0 w p r jb D at_ gj m E hv) : Calls Try.prog 26 #[.pointer (some ⟨p, 0, none⟩)] w fun e w' => e = .returned (.tuple #[]) ∧ Cr B w0 w' p r jb D.booted at_ gj m E hv ∧ Only (Three p r jb) w w' := by
  refine (boot_st h.j.st).mono ?_
  rintro e w' ⟨rfl, s, o⟩
  exact ⟨rfl, h.two s o h.len (under_booted h.under), o.mono (fun _ _ => two_three)⟩
theorem Cr.fuse (h : Cr B w0 w p r jb D at_ gj m E hv) (i : Int) (hi : I64 i) : Calls Try.prog 25 #[.pointer (some ⟨p, 0, none⟩), .int .i64 i] w fun e w' => e = .returned (.tuple #[]) ∧ Cr B w0 w' p r jb (D.fused i) at_ gj m E hv ∧ Only (Three p r jb) w w' := by
  refine (fuse_st h.j.st i).mono ?_
  rintro e w' ⟨rfl, s, o⟩
  exact ⟨rfl, h.two s o ((fused_len D i).trans h.len) (under_fused h.under i hi), o.mono (fun _ _ => two_three)⟩

/-- Open, of what is to be found. -/
theorem Cr.open (h : Cr B w0 w p r jb D at_ gj m E hv) (hon : D.off = false) (ha : 0 ≤ at_) (ha2 : at_ ≤ 60) (hm : m < 1000000000) {g : Nat} {F : Img} (hg : g < 1000000) (hs : Sound 259 at_ g D.get F) :
    Calls Try.prog 11 #[.pointer (some ⟨p, 0, none⟩), .int .i64 at_] w fun e w' => ∃ v c D', e = .returned (.tuple #[v, .int .i64 c]) ∧ Cr B w0 w' p r jb D' at_ gj (m + 257) E hv ∧ Next D D' c ∧ (c = 0 → Clean at_ g D'.get F ∧ ∃ j2, v = .pointer (some ⟨j2, 0, none⟩) ∧ JSt B w0 w' p r D' j2 at_ (g : Nat)) ∧ Sound 259 at_ g D'.get F ∧ Only (Three p r jb) w w' := by
  obtain ⟨hand, hh, k1, k2, k3, k4, k5⟩ := jOpen_spec (D := D) ha (by omega) hon h.len hs
  have u2 := jOpen_under h.under at_ g hand hh
  refine (open_calls h.j.st at_ (by rw [h.len]; decide) (by rw [h.len]; decide) g hand (by omega) k1 k2 hh m h.under (by omega)).mono ?_
  rintro e w' ⟨v, rfl, hres, o⟩
  have hst : DSt B w0 w' p r (jOpen D at_ g hand).1 := by
    by_cases hc : (jOpen D at_ g hand).2 = 0
    · obtain ⟨j2, -, -, hj⟩ := hres.1 hc
      exact hj.st
    · exact (hres.2 hc).2
  refine ⟨v, _, _, rfl, h.two hst o (k3.len.trans h.len) u2, k3, fun hc => ⟨k4 hc, ?_⟩, k5, o.mono (fun _ _ => two_three)⟩
  obtain ⟨j2, rfl, -, hj⟩ := hres.1 hc
  exact ⟨j2, rfl, hj⟩

/-- Commit of a group. -/
theorem Cr.commit (h : Cr B w0 w p r jb D at_ gj m E hv) (hon : D.off = false) (ha : 0 ≤ at_) (ha2 : at_ ≤ 60) (hm : m < 1000000000) (hg : gj < 1000000) (hc : Clean at_ gj D.get E) (x : Option Addr) (l : List (Int × List UInt8)) (n c : Nat) (hn : n = l.length) (hgr : IsGroup 259 at_ l) (hP : PutsAt (fun i => B ≤ i) w0 x l) :
    Calls Try.prog 17 #[.pointer (some ⟨jb, 0, none⟩), .slice x n c] w fun e w' => ∃ c D' g', e = .returned (.int .i64 c) ∧ Cr B w0 w' p r jb D' at_ g' (m + 400) E hv ∧ Next D D' c ∧ (c = 0 → g' = gj + 1 ∧ Clean at_ (gj + 1) D'.get (applied l E)) ∧ (Sound 259 at_ gj D'.get E ∨ Sound 259 at_ (gj + 1) D'.get (applied l E)) ∧ Only (Three p r jb) w w' := by
  have hmay := may_of_group h.len hgr
  obtain ⟨n1, c1, c2⟩ := jCommit_spec (D := D) ha (by omega) (by decide) hon h.len hgr hc
  have u1 := jCommit_under h.under at_ gj l true (fun _ => hgr.few)
  have hcc := commit_calls h.j ha (by rw [h.len]; omega) (by rw [h.len]; decide) (by omega) x l n c hn (by have := hgr.few; omega) (hP.below (S := fun _ => False) h.j.st.below h.three_ge) m h.under (by omega)
  rw [hmay] at hcc
  refine hcc.mono ?_
  rintro e w' ⟨rfl, j, o⟩
  exact ⟨_, _, _, rfl, h.three j o (n1.len.trans h.len) u1, n1, c1, c2, o⟩
/-- Commit of what is none. -/
theorem Cr.refused (h : Cr B w0 w p r jb D at_ gj m E hv) (ha : 0 ≤ at_) (ha2 : at_ ≤ 60) (hm : m < 1000000000) (hg : gj < 1000000) (x : Option Addr) (l : List (Int × List UInt8)) (n c : Nat) (hn : n = l.length) (hmax : n ≤ 9223372036854775807) (hmay : jMay D at_ l = false) (hP : PutsAt (fun i => B ≤ i) w0 x l) :
    Calls Try.prog 17 #[.pointer (some ⟨jb, 0, none⟩), .slice x n c] w fun e w' => e = .returned (.int .i64 20) ∧ Cr B w0 w' p r jb D at_ gj m E hv ∧ Only (Three p r jb) w w' := by
  have hcc := commit_calls h.j ha (by rw [h.len]; omega) (by rw [h.len]; decide) (by omega) x l n c hn hmax (hP.below (S := fun _ => False) h.j.st.below h.three_ge) m h.under (by omega)
  rw [hmay, commit_not] at hcc
  refine hcc.mono ?_
  rintro e w' ⟨rfl, j, o⟩
  exact ⟨rfl, h.three j o h.len h.under, o⟩
/-- Format. -/
theorem Cr.format (h : Cr B w0 w p r jb D at_ gj m E hv) (hon : D.off = false) (ha : 0 ≤ at_) (ha2 : at_ ≤ 60) (hm : m < 1000000000) (hE : ∀ n, ¬ inJ at_ n → D.get n = E n) :
    Calls Try.prog 12 #[.pointer (some ⟨p, 0, none⟩), .int .i64 at_] w fun e w' => ∃ c D', e = .returned (.int .i64 c) ∧ Cr B w0 w' p r jb D' at_ gj (m + 1) E hv ∧ Next D D' c ∧ (c = 0 → Clean at_ 0 D'.get E) ∧ (c ≠ 0 → D'.get = D.get) ∧ Only (Three p r jb) w w' := by
  obtain ⟨n1, c1, c2⟩ := jFormat_spec (D := D) (E := E) ha (show at_ + 199 ≤ 259 by omega) hon h.len hE
  have u1 := jFormat_under h.under at_
  refine (format_calls h.j.st at_ (by rw [h.len]; decide) (by rw [h.len]; decide) (h.under.fine (by omega))).mono ?_
  rintro e w' ⟨rfl, s, o⟩
  exact ⟨_, _, rfl, h.two s o (n1.len.trans h.len) u1, n1, c1, c2, o.mono (fun _ _ => two_three)⟩
/-- The op's own block. -/
theorem Cr.ob (h : Cr B w0 w p r jb D at_ gj m E hv) {ob : Nat} {c : Array Value} (ho : w.heap[ob]? = some (.cells c 58 (0, 0))) (o : Only (Three p r jb) w w') : w'.heap[ob]? = some (.cells c 58 (0, 0)) := by
  obtain ⟨es, cl, hm, -⟩ := h.j.st.disk.map
  refine o.keeps ho (fun e => ?_)
  rcases e with rfl | rfl | rfl
  · have := h.j.st.disk.cells
    rw [ho] at this
    cases this
  · rw [ho] at hm; cases hm
  · have := h.j.cells
    rw [ho] at this
    cases this
/-- with. -/
theorem Cr.with (h : Cr B w0 w p r jb D at_ gj m E hv) (ha : 0 ≤ at_) (ha2 : at_ ≤ 60) (x : Option Addr) (l : List (Int × List UInt8)) (n c : Nat) (hn : n = l.length) (hgr : IsGroup 259 at_ l) (hP : PutsAt (fun i => B ≤ i) w0 x l) :
    Calls Try.prog 24 #[hv, .int .i64 at_, .slice x n c] w fun e w' => ∃ v, e = .returned v ∧ Cr B w0 w' p r jb D at_ gj m (applied l E) v ∧ Only (fun _ => False) w w' := by
  refine (with_calls (Three p r jb) B w hv x l n c hn at_ ha ha2 E h.has (hP.below (S := fun _ => False) h.j.st.below h.three_ge) hgr h.j.st.hB).mono ?_
  rintro e w' ⟨v, rfl, hh, o⟩
  exact ⟨v, rfl, ⟨h.j.same o, h.len, h.under, hh⟩, o⟩
theorem Cr.group (h : Cr B w0 w p r jb D at_ gj m E hv) (ha : 0 ≤ at_) (ha2 : at_ ≤ 60) (x : Option Addr) (l : List (Int × List UInt8)) (n c : Nat) (hn : n = l.length) (hmax : n ≤ 9223372036854775807) (hP : PutsAt (fun i => B ≤ i) w0 x l) :
    Calls Try.prog 22 #[.slice x n c, .int .i64 at_, .int .i64 259] w fun e w' => e = .returned (.bool (jMay D at_ l)) ∧ Only (fun _ => False) w w' :=
  law_group_calls (Three p r jb) w x l n c hn hmax (hP.below (S := fun _ => False) h.j.st.below h.three_ge) D at_ 259 h.len ha (by omega) (by decide) (by decide)
theorem Cr.rows (h : Cr B w0 w p r jb D at_ gj m E hv) (hon : D.off = false) (ha : 0 ≤ at_) (ha2 : at_ ≤ 60) :
    Calls Try.prog 18 #[.pointer (some ⟨p, 0, none⟩), .int .i64 at_] w fun e w' => ∃ v, e = .returned (.tuple #[v, .bool true]) ∧ HasAt w.heap.size w' v (rowsTo at_ D.get 259) ∧ Cr B w0 w' p r jb D at_ gj m E hv ∧ Only (fun _ => False) w w' := by
  refine (rows_has h.j.st at_ 259 h.len hon ha (by omega) (by decide) (by decide)).mono ?_
  rintro e w' ⟨v, rfl, hh, s, o⟩
  exact ⟨v, rfl, hh, h.grow o, o⟩
end
end Go.Proofs.Ytpmlmjbhgonegaa
