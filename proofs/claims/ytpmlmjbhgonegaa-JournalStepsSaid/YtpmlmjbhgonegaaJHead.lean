/- The journal's head, and the bytes of a number: what the walk computes. -/
import Derived.Test.YtpmlmjbhgonegaaDiskSt
import Derived.Lib.BufferWrite
namespace Go.Proofs.Ytpmlmjbhgonegaa
open Go.RowKit

/-- The k-th byte of a number's eight, the greatest ahead. -/
def be8 (g k : Nat) : UInt8 := UInt8.ofNat (g / 2 ^ (56 - 8 * k))
def markBytes : List UInt8 := [106, 111, 117, 114, 110, 97, 108, 58]
/-- The head's bytes behind k bytes of the number. -/
def headTo (g k : Nat) : List UInt8 := markBytes ++ (List.range k).map (be8 g) ++ List.replicate (56 - k) 0
def headBytes (g h : Nat) : List UInt8 := markBytes ++ (List.range 8).map (be8 g) ++ UInt8.ofNat h :: List.replicate 47 0

theorem headTo_length (g k : Nat) (h : k ≤ 56) : (headTo g k).length = 64 := by simp [headTo, markBytes]; omega
theorem headBytes_length (g h : Nat) : (headBytes g h).length = 64 := by simp [headBytes, markBytes]
theorem headTo_set (g k : Nat) (h : k < 56) : (headTo g k).set (8 + k) (be8 g k) = headTo g (k + 1) := by
  unfold headTo
  rw [List.append_assoc, List.set_append_right _ _ (by simp [markBytes])]
  rw [show 8 + k - markBytes.length = ((List.range k).map (be8 g)).length + 0 from by simp [markBytes], List.set_append_right _ _ (by simp)]
  rw [show 56 - k = (56 - (k + 1)) + 1 by omega, List.replicate_succ]
  simp [List.range_succ]
theorem headTo_last (g h : Nat) : (headTo g 8).set 16 (UInt8.ofNat h) = headBytes g h := by
  unfold headTo headBytes
  rw [List.set_append_right _ _ (by simp [markBytes])]
  simp [markBytes, List.replicate_succ]
theorem headTo_zero (g : Nat) : headTo g 0 = markBytes ++ List.replicate 56 0 := by simp [headTo]

theorem be8_val (g k : Nat) : Value.int .u8 ((g : Int) / 2 ^ (56 - 8 * k) % 256) = bv (be8 g k) := by
  unfold bv be8
  rw [UInt8.toNat_ofNat']
  congr 1

set_option maxHeartbeats 400000 in
theorem head_calls (w : World) (g h : Nat) (_hg : g < 9223372036854775808) (hh : h < 256) :
    Calls Try.prog 30 #[.int .i64 (g : Int), .int .i64 (h : Int)] w fun e w' => e = .returned (.slice (some ⟨w.heap.size, 0, none⟩) 64 64) ∧ w' = w.alloc (.cells (bvs (headBytes g h)) 5) := by
  have hmk : ∀ w, (Instr.makeSlice 32 (.int .i64 64) (.int .i64 64)).run Try.prog w = .ok (.slice (some ⟨w.heap.size, 0, none⟩) 64 64) (w.alloc (.cells (bvs zeros64) 5)) := fun w => by kernel_rfl
  have hcp : ∀ w : World, (Builtin.copy_ #[32, 9] 3 #[.slice (some ⟨w.heap.size, 0, none⟩) 64 64, .string { data := #[106, 111, 117, 114, 110, 97, 108, 58] }]).run Try.prog (w.alloc (.cells (bvs zeros64) 5)) = .ok (.int .i64 8) (w.alloc (.cells (bvs (headTo g 0)) 5)) := fun w => by
    rw [Lib.run_copy_row_string (w.alloc (.cells (bvs zeros64) 5)) 32 9 3 5 w.heap.size 0 64 64 _ (bvs zeros64) 5 Try.underlying32 (by kernel_rfl) (heap_alloc_new _ _) (by decide) (by decide), setRow_new, headTo_zero]
    rfl
  go_enter Try.func30, Try.ntmps30
  go_wp2_with fail
  go_loopw [11] (fun i wr => ∃ k : Nat, k ≤ 8 ∧ i = .int .i64 k ∧ wr = w.alloc (.cells (bvs (headTo g k)) 5)) (fun i _ => 8 - (intOf i).toNat)
  case atStart => exact ⟨0, by omega, rfl, rfl⟩
  case round =>
    obtain ⟨k, hk, rfl, rfl⟩ := hrel
    by_cases hlt : k < 8
    · have hcell : ∃ b, (bvs (headTo g k))[8 + k]? = some (bv b) := by
        rw [bvs_get, List.getElem?_eq_getElem (by rw [headTo_length g k (by omega)]; omega)]
        exact ⟨_, rfl⟩
      obtain ⟨b, hcell⟩ := hcell
      have hbyte := be8_val g k
      have HB := Lib.hid hbyte
      clear hbyte
      go_wp2_with fail
      go_roundw
      case rel => exact ⟨k + 1, by omega, by go_num, by rw [HB.out, bvs_set, headTo_set g k (by omega)]⟩
      case measure => simp [intOf]; omega
    · obtain rfl : k = 8 := by omega
      have hcell : (bvs (headTo g 8))[16]? = some (bv 0) := by
        rw [bvs_get]; rfl
      have hbyte : Value.int .u8 ((h : Int)) = bv (UInt8.ofNat h) := by
        unfold bv; rw [UInt8.toNat_ofNat']; congr 1; omega
      have HB := Lib.hid hbyte
      clear hbyte
      go_wp2_with fail
      go_ret
      exact ⟨rfl, by rw [HB.out, bvs_set, headTo_last]⟩
end Go.Proofs.Ytpmlmjbhgonegaa
