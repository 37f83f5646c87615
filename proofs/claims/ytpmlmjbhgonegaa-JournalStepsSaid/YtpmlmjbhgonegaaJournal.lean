/- Contracts of package journal: there, Format, place, Groups. -/
import Derived.Test.YtpmlmjbhgonegaaJHead
namespace Go.Proofs.Ytpmlmjbhgonegaa
open Go.RowKit

theorem len_calls (w : World) (p r : Nat) (D : DK) (h : DiskAt w p r D) :
    Calls Try.prog 23 #[.pointer (some ⟨p, 0, none⟩)] w fun e w' => e = .returned (.int .i64 D.len) ∧ w = w' := by
  obtain ⟨len, off, fuse, n, has⟩ := D
  have c2 := cellOf h.cells 0
  simp [diskCells] at c2
  clear h
  go_enter Try.func23, Try.ntmps23
  go_wp2
  go_ret
  exact ⟨by simp, rfl⟩

/-- Is there room for a journal from at on. -/
def roomAt (D : DK) (at_ : Int) : Bool := decide (0 ≤ at_ ∧ at_ ≤ D.len - 199)

set_option maxHeartbeats 400000 in
theorem there_calls (w : World) (p r : Nat) (D : DK) (at_ : Int) (h : DiskAt w p r D) (h1 : 1 ≤ D.len) (h2 : D.len ≤ 4096) :
    Calls Try.prog 29 #[.pointer (some ⟨p, 0, none⟩), .int .i64 at_] w fun e w' => e = .returned (.bool (roomAt D at_)) ∧ w = w' := by
  have hl := len_calls w p r D h
  have H := Lib.hid hl
  clear hl h
  unfold roomAt
  by_cases hk : 0 ≤ at_
  · go_enter Try.func29, Try.ntmps29
    go_wp2_with (go_at_call 23; refine H.out.mono ?_; rintro e w' ⟨rfl, rfl⟩)
    go_ret
    exact ⟨by simp [hk], rfl⟩
  · have hk' : decide (0 ≤ at_) = false := by simpa using hk
    go_enter Try.func29, Try.ntmps29
    go_wp2
    go_ret
    exact ⟨by simp, rfl⟩

/-- A journal's struct. -/
def jCells (p : Nat) (at_ g : Int) : Array Value := #[.pointer (some ⟨p, 0, none⟩), .int .i64 at_, .int .i64 g]

/-- A journal of the call's own, on a disk of the call's own. -/
structure JSt (B : Nat) (w0 w : World) (p r : Nat) (D : DK) (jb : Nat) (at_ g : Int) : Prop where
  st : DSt B w0 w p r D
  cells : w.heap[jb]? = some (.cells (jCells p at_ g) 70 (0, 0))
  hj : B ≤ jb
  np : jb ≠ p
  nr : jb ≠ r

theorem JSt.next {B : Nat} {w0 w w' : World} {p r : Nat} {D D' : DK} {jb : Nat} {at_ g : Int} (h : JSt B w0 w p r D jb at_ g) (s : DSt B w0 w' p r D') (o : Only (Two p r) w w') : JSt B w0 w' p r D' jb at_ g :=
  ⟨s, o.keeps h.cells (fun e => by rcases e with e | e; exact h.np e; exact h.nr e), h.hj, h.np, h.nr⟩
theorem JSt.same {B : Nat} {w0 w w' : World} {p r : Nat} {D : DK} {jb : Nat} {at_ g : Int} (h : JSt B w0 w p r D jb at_ g) (o : Only (fun _ => False) w w') : JSt B w0 w' p r D jb at_ g :=
  h.next (h.st.same o) (o.two p r)
theorem JSt.drew {B : Nat} {w0 w : World} {p r : Nat} {D : DK} {jb : Nat} {at_ g : Int} (h : JSt B w0 w p r D jb at_ g) : JSt B w0 w.drew p r D jb at_ g :=
  ⟨h.st.drew, h.cells, h.hj, h.np, h.nr⟩

theorem groups_calls (w : World) (p : Nat) (jb : Nat) (at_ g : Int) (h : w.heap[jb]? = some (.cells (jCells p at_ g) 70 (0, 0))) :
    Calls Try.prog 13 #[.pointer (some ⟨jb, 0, none⟩)] w fun e w' => e = .returned (.int .i64 g) ∧ w = w' := by
  have c2 := cellOf h 2
  simp [jCells] at c2
  clear h
  go_enter Try.func13, Try.ntmps13
  go_wp2
  go_ret
  exact ⟨by simp, rfl⟩

/-- How the disk is behind Format, and what it answers. -/
def jFormat (D : DK) (at_ : Int) : DK × Int := if roomAt D at_ then D.write at_ (headBytes 0 0) else (D, 1)

theorem head_st {B : Nat} {w0 w : World} {p r : Nat} {D : DK} (h : DSt B w0 w p r D) (g hh : Nat) (n m : Int) (hn : n = g) (hm : m = hh) (hg : g < 9223372036854775808) (hlt : hh < 256) :
    Calls Try.prog 30 #[.int .i64 n, .int .i64 m] w fun e w' => ∃ b, e = .returned (.slice (some ⟨b, 0, none⟩) 64 64) ∧ RowAt w' ⟨b, 0, none⟩ (headBytes g hh) ∧ DSt B w0 w' p r D ∧ Only (fun _ => False) w w' := by
  subst hn hm
  refine (head_calls w g hh hg hlt).mono ?_
  rintro e w' ⟨rfl, rfl⟩
  exact ⟨_, rfl, .of_cells (heap_alloc_new _ _), h.same ((Only.refl _ w).alloc _), (Only.refl _ w).alloc _⟩

set_option maxHeartbeats 400000 in
theorem format_calls {B : Nat} {w0 w : World} {p r : Nat} {D : DK} (h : DSt B w0 w p r D) (at_ : Int) (h1 : 1 ≤ D.len) (h2 : D.len ≤ 4096) (hf : D.fine) :
    Calls Try.prog 12 #[.pointer (some ⟨p, 0, none⟩), .int .i64 at_] w fun e w' => e = .returned (.int .i64 (jFormat D at_).2) ∧ DSt B w0 w' p r (jFormat D at_).1 ∧ Only (Two p r) w w' := by
  have ht := there_calls w p r D at_ h.disk h1 h2
  have HT := Lib.hid ht
  clear ht
  unfold jFormat
  by_cases hr : roomAt D at_ = true
  · have H := HT.out
    rw [hr] at H
    have HX := Lib.hid H
    clear H HT
    rw [if_pos hr]
    clear hr
    go_enter Try.func12, Try.ntmps12
    go_wp2_with fail
    refine HX.out.mono ?_
    rintro e w' ⟨rfl, rfl⟩
    go_wp2_with fail
    refine (head_st h 0 0 _ _ rfl rfl (by omega) (by omega)).mono ?_
    rintro e w2 ⟨b, rfl, hrow, s2, o2⟩
    go_wp2_with fail
    refine (write_st s2 at_ _ _ 64 64 (headBytes_length 0 0) (.of_row hrow) hf).mono ?_
    rintro e w3 ⟨rfl, s3, o3⟩
    have FIN := Lib.hid (And.intro s3 ((o2.two p r).trans o3))
    clear s3 o3 o2 s2 hrow
    go_wp2_with fail
    go_ret
    exact ⟨rfl, FIN.out⟩
  · have hr' : roomAt D at_ = false := by simpa using hr
    have H := HT.out
    rw [hr'] at H
    have HX := Lib.hid H
    clear H HT
    rw [if_neg hr]
    clear hr hr'
    go_enter Try.func12, Try.ntmps12
    go_wp2_with fail
    refine HX.out.mono ?_
    rintro e w' ⟨rfl, rfl⟩
    go_wp2_with fail
    go_ret
    exact ⟨rfl, h, Only.refl _ _⟩
end Go.Proofs.Ytpmlmjbhgonegaa
