/- An argument that is a []string, opened to its cells; what the bound on bulk gives of it. -/
import Derived.Test.YtiobdnnijbfdhaaDoorRows
import Derived.Test.YtiobdnnijbfdhaaDoorWWords
import Derived.SliceStrings
import Derived.WideShapes
namespace Go.Proofs.YtiobdnnijbfdhaaDoor.StrsArg
open Go.ChangeShapes Go.WideShapes Go.RowKit Go.Proofs.YtiobdnnijbfdhaaDoorW.PrintWords

theorem bulk_strs {H : Type} (ss : List ByteArray) : ss.length ≤ Rows.uptoBulkAll (strs ss : List (DataW H)) ∧ ∀ s ∈ ss, s.size ≤ Rows.uptoBulkAll (strs ss : List (DataW H)) := by
  induction ss with
  | nil => exact ⟨Nat.zero_le _, fun s h => by cases h⟩
  | cons x r ih =>
    have hx := data_length x
    simp only [strs, List.map_cons, Rows.uptoBulkAll, Rows.uptoBulk, List.length_cons] at ih ⊢
    refine ⟨by omega, fun s hs => ?_⟩
    rcases List.mem_cons.1 hs with rfl | h
    · omega
    · have := ih.2 s h
      omega
theorem strs_open {H : Type} {enc : TypeId × Value → H} {w : World} {a : Option Addr} {len cap : Nat} {d : DataW H} {p : List MemPlace}
    (h : DataW.Trod enc Tryd.prog w 0 (fun _ => true) true 32 (.slice a len cap) d p) :
    ∃ xs : List ByteArray, xs.length = len ∧ len ≤ cap ∧ Kd.C Kd.string w a xs.length xs ∧ xs.length ≤ Rows.uptoBulk d ∧ ∀ x ∈ xs, x.size ≤ Rows.uptoBulk d := by
  have hC : Tryd.prog.cellsOf 9 = 1 := by kernel_rfl
  obtain ⟨fuel, h⟩ := h
  have h' : DataW.trod enc Tryd.prog w 0 (fun _ => true) true fuel 32 [.slice a len cap] = some (d, p) := h
  rcases open_strings Tryd.underlying32 Tryd.underlying9 hC h' with ⟨hcs, hx⟩ | ⟨ad, l, c, ss, hcs, _, hl, hm, hs, hx, hcell, _⟩
  · simp at hcs
    obtain ⟨rfl, rfl, rfl⟩ := hcs
    exact ⟨[], rfl, Nat.le_refl _, Kd.C_of_reads (d := ByteArray.empty) ⟨rfl, by simp, fun h => by simp at h⟩, Nat.zero_le _, fun x hx => by cases hx⟩
  · simp at hcs
    obtain ⟨rfl, rfl, rfl⟩ := hcs
    have hs : ss.length = cap := by simpa using hs
    unfold maxLen at hm
    have hlen : (ss.take len).length = len := by rw [List.length_take]; omega
    have hd : d = .slice (strs (ss.take len)) (strs (ss.drop len)) := congrArg Prod.fst hx
    have hb := bulk_strs (H := H) (ss.take len)
    refine ⟨ss.take len, hlen, hl, Kd.C_of_reads (d := ByteArray.empty) ⟨rfl, by omega, fun _ => ⟨ad, rfl, fun j hj => ?_⟩⟩, ?_, fun x hx => ?_⟩
    · rw [hlen] at hj
      have := hcell j (by omega)
      have e : (ss.take len).getD j ByteArray.empty = ss.getD j ByteArray.empty := by simp only [List.getD_eq_getElem?_getD, List.getElem?_take, if_pos hj]
      rw [this, e]
    · rw [hd]
      exact Nat.le_trans hb.1 (by simp only [Rows.uptoBulk]; exact Nat.le_trans (Nat.le_add_right _ _) (Nat.le_succ _))
    · rw [hd]
      exact Nat.le_trans (hb.2 x hx) (by simp only [Rows.uptoBulk]; exact Nat.le_trans (Nat.le_add_right _ _) (Nat.le_succ _))
end Go.Proofs.YtiobdnnijbfdhaaDoor.StrsArg
