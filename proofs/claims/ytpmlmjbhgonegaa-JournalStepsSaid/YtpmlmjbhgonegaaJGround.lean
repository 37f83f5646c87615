/- The laws' full and ground. -/
import Derived.Test.YtpmlmjbhgonegaaJCommit
import Derived.Test.YtpmlmjbhgonegaaJPure2
namespace Go.Proofs.Ytpmlmjbhgonegaa
open Go.RowKit

/-- A block of one byte, and another one at its end. -/
def fullBytes (c z : UInt8) : List UInt8 := (List.replicate 64 c).set 63 z
theorem fullBytes_length (c z : UInt8) : (fullBytes c z).length = 64 := by simp [fullBytes]

theorem full_calls (w : World) (c z : UInt8) :
    Calls Try.prog 16 #[bv c, bv z] w fun e w' => e = .returned (.slice (some ⟨w.heap.size, 0, none⟩) 64 64) ∧ w' = w.alloc (.cells (bvs (fullBytes c z)) 5) := by
  have hmk : ∀ w, (Instr.makeSlice 32 (.int .i64 64) (.int .i64 64)).run Try.prog w = .ok (.slice (some ⟨w.heap.size, 0, none⟩) 64 64) (w.alloc (.cells (bvs (fillTo c 64 0)) 5)) := fun w => by rw [fillTo_zero]; kernel_rfl
  unfold bv
  go_enter Try.func16, Try.ntmps16
  go_wp2
  go_loopw [6] (fun i wr => ∃ k : Nat, k ≤ 64 ∧ i = .int .i64 k ∧ wr = w.alloc (.cells (bvs (fillTo c 64 k)) 5)) (fun i _ => 64 - (intOf i).toNat)
  case atStart => exact ⟨0, by omega, rfl, rfl⟩
  case round =>
    obtain ⟨k, hk, rfl, rfl⟩ := hrel
    by_cases hlt : k < 64
    · have hcell : (bvs (fillTo c 64 k))[k]? = some (bv 0) := by rw [bvs_get, fillTo_get c 64 k hlt]; rfl
      go_wp2
      go_roundw
      case rel => exact ⟨k + 1, by omega, by go_num, by rw [← fillTo_set c 64 k hlt, ← bvs_set]; rfl⟩
      case measure => simp [intOf]; omega
    · obtain rfl : k = 64 := by omega
      have hcell : (bvs (fillTo c 64 64))[63]? = some (bv c) := by rw [fillTo_all, bvs_get]; rfl
      go_wp2
      go_ret
      refine ⟨rfl, ?_⟩
      have : (bvs (fillTo c 64 64)).setIfInBounds 63 (bv z) = bvs (fullBytes c z) := by rw [fillTo_all, bvs_set]; rfl
      rw [← this]
      rfl

theorem full_st {B : Nat} {w0 w : World} {p r : Nat} {D : DK} (h : DSt B w0 w p r D) (c z : UInt8) (n m : Int) (hn : n = c.toNat) (hm : m = z.toNat) :
    Calls Try.prog 16 #[.int .u8 n, .int .u8 m] w fun e w' => ∃ b, e = .returned (.slice (some ⟨b, 0, none⟩) 64 64) ∧ RowAt w' ⟨b, 0, none⟩ (fullBytes c z) ∧ DSt B w0 w' p r D ∧ Only (fun _ => False) w w' ∧ w.heap.size ≤ b := by
  subst hn hm
  refine (full_calls w c z).mono ?_
  rintro e w' ⟨rfl, rfl⟩
  exact ⟨_, rfl, .of_cells (heap_alloc_new _ _), h.same ((Only.refl _ w).alloc _), (Only.refl _ w).alloc _, Nat.le_refl _⟩

theorem Only.over {S : Nat → Prop} {a b c : World} (h : Only (fun _ => False) a b) (hS : ∀ k, S k → a.heap.size ≤ k) (k : Only S b c) : Only (fun _ => False) a c :=
  ⟨k.os.trans h.os, k.tape.trans h.tape, k.output.trans h.output, Nat.le_trans h.size k.size, fun i hi _ => (k.block i (by have := h.size; omega) (fun e => by have := hS i e; omega)).trans (h.block i hi (fun e => e))⟩

/-- A disk that is on, without a fuse. -/
structure Fit (D : DK) (len m : Int) : Prop where
  len : D.len = len
  off : D.off = false
  fuse : D.fuse = -1
  under : D.under m
theorem Fit.next {D D' : DK} {len m m' c : Int} (h : Fit D len m) (n : Next D D' c) (u : D'.under m') : c = 0 ∧ Fit D' len m' := by
  have hc : c = 0 := by
    rcases Classical.em (c = 0) with e | e
    · exact e
    · exact absurd h.fuse (n.off e).2.2.2
  subst hc
  exact ⟨rfl, n.len.trans h.len, (n.on rfl).1, (n.on rfl).2.1 h.fuse, u⟩

abbrev zeroImg : Img := fun _ => zeros64

set_option maxHeartbeats 1000000 in
theorem ground_calls {B : Nat} {w0 w : World} (at_ : Int) (ha : 0 ≤ at_) (ha2 : at_ ≤ 60) (hB : B ≤ w.heap.size) (hb : Below B w0 w) :
    Calls Try.prog 15 #[.int .i64 at_] w fun e w' => ∃ p r jb D, e = .returned (.tuple #[.pointer (some ⟨p, 0, none⟩), .pointer (some ⟨jb, 0, none⟩)]) ∧ JSt B w0 w' p r D jb at_ (0 : Nat) ∧ Only (fun _ => False) w w' ∧ Fit D 259 1000 ∧ Clean at_ 0 D.get zeroImg ∧ w.heap.size ≤ p ∧ w.heap.size ≤ r ∧ w.heap.size ≤ jb := by
  have HNEW := Lib.hid (new_st B w0 w 259 (by omega) (by omega) hB hb)
  go_enter Try.func15, Try.ntmps15
  go_wp2_with fail
  refine HNEW.out.mono ?_
  rintro e w1 ⟨p, r, rfl, s1, o1, hp, hr⟩
  have hf0 : Fit ⟨259, false, -1, 0, fun _ => none⟩ 259 0 := ⟨rfl, rfl, rfl, ⟨by decide, by decide, by decide⟩⟩
  obtain ⟨n1, c1, -⟩ := jFormat_spec (E := zeroImg) ha (show at_ + 199 ≤ 259 by omega) hf0.off hf0.len (fun n _ => rfl)
  have u1 := jFormat_under hf0.under at_
  obtain ⟨e1, f1⟩ := hf0.next n1 u1
  have hcl := c1 e1
  have hfc := format_calls s1 at_ (by decide) (by decide) (hf0.under.fine (by decide))
  rw [e1] at hfc
  obtain ⟨D1, hD1⟩ : ∃ D1, D1 = (jFormat ⟨259, false, -1, 0, fun _ => none⟩ at_).1 := ⟨_, rfl⟩
  rw [← hD1] at hfc f1 hcl
  have HF := Lib.hid hfc
  have F1 := Lib.hid f1
  have CL := Lib.hid hcl
  have O1 := Lib.hid o1
  have HPR := Lib.hid (And.intro hp hr)
  clear hfc f1 hcl n1 c1 u1 e1 hf0 o1 s1 hp hr hD1
  go_wp2_with fail
  refine HF.out.mono ?_
  rintro e w2 ⟨rfl, s2, o2⟩
  have O2 := Lib.hid (O1.out.over (fun k hk => by have := HPR.out; rcases hk with rfl | rfl <;> omega) o2)
  obtain ⟨hand, hh, k1, k2, k3, k4, -⟩ := jOpen_spec ha (show at_ + 199 ≤ 259 by omega) F1.out.off F1.out.len (.inl CL.out)
  have u2 := jOpen_under F1.out.under at_ 0 hand hh
  obtain ⟨e2, f2⟩ := F1.out.next k3 u2
  have hcl2 := k4 e2
  have hoc := open_calls s2 at_ (by rw [F1.out.len]; decide) (by rw [F1.out.len]; decide) 0 hand (by decide) k1 k2 hh _ F1.out.under (by decide)
  rw [e2] at hoc
  obtain ⟨D2, hD2⟩ : ∃ D2, D2 = (jOpen D1 at_ 0 hand).1 := ⟨_, rfl⟩
  rw [← hD2] at hoc f2 hcl2
  have HO := Lib.hid hoc
  have F2 := Lib.hid f2
  have CL2 := Lib.hid hcl2
  clear hoc f2 hcl2 k1 k2 k3 k4 u2 e2 o2 s2 hD2
  go_wp2_with fail
  refine HO.out.mono ?_
  rintro e w3 ⟨v, rfl, hres, o3⟩
  obtain ⟨jb, rfl, hjb, j3⟩ := hres.1 rfl
  have O3 := Lib.hid (O2.out.over (fun k hk => by have := HPR.out; rcases hk with rfl | rfl <;> omega) o3)
  have J3 := Lib.hid j3
  have HJB := Lib.hid hjb
  clear hres o3 j3 hjb
  go_wp2_with fail
  go_ret2
  exact ⟨p, r, jb, D2, rfl, J3.out, O3.out, ⟨F2.out.len, F2.out.off, F2.out.fuse, F2.out.under.mono (by decide)⟩, CL2.out, HPR.out.1, HPR.out.2, by have := HJB.out; have := O2.out.size; omega⟩
end Go.Proofs.Ytpmlmjbhgonegaa
