/- An argument that is a [][]byte, opened to its cells. -/
import Derived.Test.YtpmlmjbhgonegaaBytesArg
import Derived.Deep.Slices
namespace Go.Proofs.Ytpmlmjbhgonegaa
open Go.ChangeShapes Go.WideShapes Go.Deep Go.RowKit

/-- The cells of a [][]byte that came in. -/
def RowsArg (w : World) (a : Option Addr) (len : Nat) : Prop :=
  len ≤ 9223372036854775807 ∧ ∀ i, i < len → ∃ (x : Addr) (a1 : Option Addr) (n1 c1 : Nat), a = some x ∧ x.block < w.heap.size ∧ w.cell? (x.add i) = some (.slice a1 n1 c1) ∧ BytesArg w a1 n1

theorem rows_open {H : Type} {enc : TypeId × Value → H} {w : World} {fuel : Nat} {a : Option Addr} {len cap : Nat} {x : DataW H × List MemPlace}
    (h : DataW.trod enc Try.prog w 0 (fun _ => true) true fuel 36 [.slice a len cap] = some x) : RowsArg w a len := by
  have hC : Try.prog.cellsOf 32 = 1 := by kernel_rfl
  rcases open_slice Try.underlying36 h with ⟨hcs, _⟩ | ⟨ad, l, c, m, n, D, Pl, hcs, _, hl, hm, hmm, _, hi⟩
  · simp at hcs
    obtain ⟨rfl, rfl, rfl⟩ := hcs
    exact ⟨by omega, fun i hi => by omega⟩
  · simp at hcs
    obtain ⟨rfl, rfl, rfl⟩ := hcs
    unfold maxLen at hm
    refine ⟨by omega, fun i hil => ?_⟩
    simp only [if_true] at hmm
    obtain ⟨cs', hc, ht⟩ := hi i (by omega)
    rw [hC] at hc
    obtain ⟨_, hcl, hat⟩ := World.cells?_some hc
    have h0 := hat 0 (by omega)
    rw [Go.Deep.add_add, Nat.mul_one, Nat.add_zero] at h0
    have hsh : ∃ a1 n1 c1, cs' = [.slice a1 n1 c1] := by
      rcases open_slice Try.underlying32 ht with ⟨e, _⟩ | ⟨ad1, l1, c1, _, _, _, _, e, _⟩
      · exact ⟨_, _, _, e⟩
      · exact ⟨_, _, _, e⟩
    obtain ⟨a1, n1, c1, rfl⟩ := hsh
    have hb := block_lt_of_cell h0
    rw [add_block] at hb
    exact ⟨ad, a1, n1, c1, rfl, hb, h0, bytes_open ht⟩
end Go.Proofs.Ytpmlmjbhgonegaa
