/- A law for the printed texts' walks: whether a cell is there does not hang on what is stored. -/
import Derived.WalkKit
import Derived.Deep.Draws
namespace Go.Proofs.YtiobdnnijbfdhaaDoor.PxMore
open Go.RowKit
theorem isSome_setCell (w : World) (p q : Addr) (u : Value) : ((w.setCell p u).cell? q).isSome = (w.cell? q).isSome := by
  by_cases h : p = q
  · subst h
    cases hc : w.cell? p with
    | some v => rw [World.cell?_setCell_same w p u hc]; rfl
    | none =>
      cases hd : (w.setCell p u).cell? p with
      | none => rfl
      | some x =>
        exfalso
        unfold World.cell? at hc hd
        simp only [World.setCell, Array.getElem?_modify, if_true] at hd
        cases hb : w.heap[p.block]? with
        | none => simp [hb] at hd
        | some o =>
          cases o <;> simp [hb] at hd hc
          rename_i c t f
          cases hs : p.spot with
          | some _ => simp [hs] at hd
          | none => 
            simp [hs] at hd hc
            have := (Array.getElem?_eq_some_iff.1 hd).1
            simp at this
            omega
  · rw [World.cell?_setCell_other (h := h)]
theorem setCell_drewN (w : World) (n : Nat) (p : Addr) (v : Value) : (w.drewN n).setCell p v = (w.setCell p v).drewN n := rfl
theorem cell_drewN (w : World) (n : Nat) (p : Addr) : (w.drewN n).cell? p = w.cell? p := rfl
end Go.Proofs.YtiobdnnijbfdhaaDoor.PxMore
