/- An argument that is a []byte, opened to its cells. -/
import Derived.Test.YtpmlmjbhgonegaaStructs
import Derived.Test.YtpmlmjbhgonegaaProg
import Derived.ProofKit
import Derived.OpenShut
namespace Go.Proofs.Ytpmlmjbhgonegaa
open Go.ChangeShapes Go.WideShapes Go.Deep Go.RowKit

/-- The cells of a []byte that came in. -/
def BytesArg (w : World) (a : Option Addr) (len : Nat) : Prop :=
  len ≤ 9223372036854775807 ∧ ∃ l : List UInt8, l.length = len ∧ ∀ i, i < len → ∃ x : Addr, a = some x ∧ x.block < w.heap.size ∧ w.cell? (x.add i) = some (bv (l.getD i 0))

theorem wf8b {n : Int} (h : (Lit.int .u8 n).wf = true) : Value.int .u8 n = bv (UInt8.ofNat n.toNat) := by
  have hb : 0 ≤ n ∧ n ≤ 255 := by simpa [Lit.wf, IntKind.min, IntKind.max, IntKind.signed, IntKind.bits] using h
  unfold bv
  rw [UInt8.toNat_ofNat']
  congr 1
  omega

theorem bytes_open {H : Type} {enc : TypeId × Value → H} {w : World} {fuel : Nat} {a : Option Addr} {len cap : Nat} {x : DataW H × List MemPlace}
    (h : DataW.trod enc Try.prog w 0 (fun _ => true) true fuel 32 [.slice a len cap] = some x) : BytesArg w a len := by
  rcases open_ints Try.underlying32 Try.underlying5 (by kernel_rfl) h with ⟨hcs, _⟩ | ⟨ad, l, c, zs, hcs, _, hl, hm, hz, _, hcell, hwz⟩
  · simp at hcs
    obtain ⟨rfl, rfl, rfl⟩ := hcs
    exact ⟨by omega, [], rfl, fun i hi => by omega⟩
  · simp at hcs
    obtain ⟨rfl, rfl, rfl⟩ := hcs
    simp at hz
    unfold maxLen at hm
    refine ⟨by omega, (zs.take len).map fun n => UInt8.ofNat n.toNat, by simp; omega, fun i hi => ?_⟩
    have hlt : i < zs.length := by omega
    have h1 := hcell i hlt
    have hmem : zs.getD i 0 ∈ zs := by
      rw [List.getD_eq_getElem?_getD, List.getElem?_eq_getElem hlt]
      simp
    have h2 := wf8b (hwz _ hmem)
    have hb := block_lt_of_cell h1
    rw [add_block] at hb
    refine ⟨ad, rfl, hb, ?_⟩
    rw [h1, h2]
    congr 1
    have e1 : (zs.take len)[i]? = some zs[i] := by rw [List.getElem?_take_of_lt hi, List.getElem?_eq_getElem hlt]
    simp [List.getD_eq_getElem?_getD, List.getElem?_take_of_lt hi, hlt]
end Go.Proofs.Ytpmlmjbhgonegaa
