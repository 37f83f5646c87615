/- Commit and Open on a disk that is on and has no fuse. -/
import Derived.Test.YtpmlmjbhgonegaaJShownA
namespace Go.Proofs.Ytpmlmjbhgonegaa
open Go.RowKit

theorem commit_fit {B : Nat} {w0 w : World} {p r : Nat} {D : DK} {jb : Nat} {at_ len : Int} {g : Nat} {E : Img} (h : JSt B w0 w p r D jb at_ g) (m : Int) (hf : Fit D len m) (ha : 0 ≤ at_) (ha2 : at_ + 199 ≤ len) (hl : len ≤ 4096) (hg : g < 1000000) (hm : m < 1000000000) (hcl : Clean at_ g D.get E) (x : Option Addr) (l : List (Int × List UInt8)) (n c : Nat) (hn : n = l.length) (hgr : IsGroup len at_ l) (hP : PutsAt (Three p r jb) w x l) :
    Calls Try.prog 17 #[.pointer (some ⟨jb, 0, none⟩), .slice x n c] w fun e w' => e = .returned (.int .i64 0) ∧ ∃ D', JSt B w0 w' p r D' jb at_ ((g + 1 : Nat) : Int) ∧ Fit D' len (m + 400) ∧ Clean at_ (g + 1) D'.get (applied l E) ∧ Only (Three p r jb) w w' := by
  have hmay := may_of_group hf.len hgr
  obtain ⟨n1, c1, -⟩ := jCommit_spec ha ha2 hl hf.off hf.len hgr hcl
  have u1 := jCommit_under hf.under at_ g l true (fun _ => hgr.few)
  obtain ⟨e1, f1⟩ := hf.next n1 u1
  obtain ⟨e2, hcl2⟩ := c1 e1
  have hc := commit_calls h ha (by rw [hf.len]; exact ha2) (by rw [hf.len]; exact hl) (by omega) x l n c hn (by have := hgr.few; omega) hP m hf.under (by omega)
  rw [hmay] at hc
  refine hc.mono ?_
  rintro e w' ⟨rfl, j, o⟩
  rw [e1]
  rw [e2] at j
  exact ⟨rfl, _, j, f1, hcl2, o⟩

theorem open_fit {B : Nat} {w0 w : World} {p r : Nat} {D : DK} (h : DSt B w0 w p r D) {at_ len : Int} {g : Nat} {E : Img} (m : Int) (hf : Fit D len m) (ha : 0 ≤ at_) (ha2 : at_ + 199 ≤ len) (hl : len ≤ 4096) (hg : g < 1000000) (hm : m < 1000000000) (hcl : Sound len at_ g D.get E) :
    Calls Try.prog 11 #[.pointer (some ⟨p, 0, none⟩), .int .i64 at_] w fun e w' => ∃ jb D', e = .returned (.tuple #[.pointer (some ⟨jb, 0, none⟩), .int .i64 0]) ∧ w.heap.size ≤ jb ∧ JSt B w0 w' p r D' jb at_ g ∧ Fit D' len (m + 257) ∧ Clean at_ g D'.get E ∧ Only (Two p r) w w' := by
  obtain ⟨hand, hh, k1, k2, k3, k4, -⟩ := jOpen_spec ha ha2 hf.off hf.len hcl
  have u2 := jOpen_under hf.under at_ g hand hh
  obtain ⟨e2, f2⟩ := hf.next k3 u2
  refine (open_calls h at_ (by rw [hf.len]; omega) (by rw [hf.len]; exact hl) g hand (by omega) k1 k2 hh m hf.under (by omega)).mono ?_
  rintro e w' ⟨v, rfl, hres, o⟩
  obtain ⟨jb, rfl, hjb, j⟩ := hres.1 e2
  rw [e2]
  exact ⟨jb, _, rfl, hjb, j, f2, k4 e2, o⟩

theorem commit_bad {B : Nat} {w0 w : World} {p r : Nat} {D : DK} {jb : Nat} {at_ len : Int} {g : Nat} (h : JSt B w0 w p r D jb at_ g) (m : Int) (hf : Fit D len m) (ha : 0 ≤ at_) (ha2 : at_ + 199 ≤ len) (hl : len ≤ 4096) (hg : g < 1000000) (hm : m < 1000000000) (x : Option Addr) (l : List (Int × List UInt8)) (n c : Nat) (hn : n = l.length) (hmax : n ≤ 9223372036854775807) (hmay : jMay D at_ l = false) (hP : PutsAt (Three p r jb) w x l) :
    Calls Try.prog 17 #[.pointer (some ⟨jb, 0, none⟩), .slice x n c] w fun e w' => e = .returned (.int .i64 20) ∧ JSt B w0 w' p r D jb at_ g ∧ Only (Three p r jb) w w' := by
  have hc := commit_calls h ha (by rw [hf.len]; exact ha2) (by rw [hf.len]; exact hl) (by omega) x l n c hn hmax hP m hf.under (by omega)
  rw [hmay, commit_not] at hc
  exact hc

theorem group_A : IsGroup 259 0 shA := group_of_may (D := ⟨259, false, -1, 0, fun _ => none⟩) rfl (may_A rfl)

theorem clean_img {at_ : Int} {g : Nat} {G G' E : Img} (h : Clean at_ g G E) (e : G' = G) : Clean at_ g G' E := e ▸ h
end Go.Proofs.Ytpmlmjbhgonegaa
