/- A word for the printed texts' walks: append(xs, []byte(s)...): the conversion and the append, both at once. -/
import Derived.Test.YtgppfalpncbmbaaDoorWWords
import Derived.Lib.ConvBytes
import Derived.Maps.AppendAt
import Derived.Maps.RangeWalk
namespace Go.Proofs.YtgppfalpncbmbaaDoor.PxConv
open Go.RowKit Go.Proofs.YtgppfalpncbmbaaDoorW.PrintWords
section
variable {P : Program} {ops : Array Oper} {rest : List Oper} {o1 o2 : Oper} {a : Act} {Q : Exit → Act → World → Prop}
theorem grown_bytes (W : World) (e : TypeId) (s : ByteArray) : W.grownBy (Lib.bytesWorld W e s) none :=
  ⟨rfl, rfl, rfl, by rw [Lib.bytesWorld_size]; omega, fun k hk _ => Lib.bytesWorld_at_old W e s k hk⟩
theorem bytesOf_get (s : ByteArray) (j : Nat) (hj : j < s.size) : (bytesOf s).getD j 0 = ((s.data.toList.getD j 0).toNat : Int) := by
  have hl : j < s.data.toList.length := by rw [data_length]; exact hj
  unfold bytesOf
  rw [List.getD_eq_getElem?_getD, List.getElem?_map, List.getElem?_eq_getElem hl, List.getD_eq_getElem?_getD, List.getElem?_eq_getElem hl]
  rfl
theorem R_append_conv {w0 W : World} (base : Nat) (hg1 : o1.guard = none) (hg2 : o2.guard = none) (ta tx : Tmp) (hne : tx ≠ ta) (hd1 : o1.dst = some tx) (x : Operand) (u t e : TypeId)
    (ho1 : o1.op = .convert u t x) (ho2 : o2.op = .call { callee := .builtin .append, args := #[.tmp ta, .tmp tx], argTypes := #[t, t] })
    (ht : P.underlying t = some (.slice e)) (he : P.underlying e = some (.int .u8)) (hu : P.underlying u = some .string) (hinfo : (P.info? e).map (fun i => (i.zero, i.size, i.bytes)) = some (some (.int .u8 0), 1, 1))
    (v : Value) (xs : List Int) (y : ByteArray) (ok : Nat → Prop) (hs : a.eval (.tmp ta) = v) (hx : a.eval x = .string y) (hlt : tx < a.tmps.size)
    (HO : Kd.R (Kd.int .u8) e W base ok v xs) (hfresh : ∀ k, W.heap.size ≤ k → ok k) (HB : Below base w0 W) (hbase : base ≤ W.heap.size) (hl : xs.length + y.size ≤ 140737488355328)
    (h : ∀ v1 w1 z, Kd.R (Kd.int .u8) e w1 base ok v1 (xs ++ bytesOf y) → Below base w0 w1 → W.grownBy w1 v.ownBlock → (v1.ownBlock = v.ownBlock ∨ ∃ b, v1.ownBlock = some b ∧ W.heap.size ≤ b) → wpList P ops Q rest ((a.put o1.dst z).put o2.dst v1) w1) :
    wpList P ops Q (o1 :: o2 :: rest) a W := by
  refine wpList_plain hg1 fun K hK => ?_
  have hrun := Lib.run_convert_string_bytes (P := P) W u t e y hu ht he
  unfold Oper.wp
  simp [execOp, ho1, hx, hrun, Result.andThen]
  refine hK _ _ ?_
  have hgb := grown_bytes W e y
  have hbel : Below W.heap.size W (Lib.bytesWorld W e y) := ⟨rfl, rfl, rfl, by rw [Lib.bytesWorld_size]; omega, fun k hk => Lib.bytesWorld_at_old W e y k hk⟩
  have hev1 : (a.put o1.dst (.slice (some ⟨W.heap.size, 0, none⟩) y.size (grownCap W y.size 0 e))).eval (.tmp ta) = v := by
    rw [hd1, ← hs]
    simp [Act.eval, Act.put, hne]
  have hev2 : (a.put o1.dst (.slice (some ⟨W.heap.size, 0, none⟩) y.size (grownCap W y.size 0 e))).eval (.tmp tx) = .slice (some ⟨W.heap.size, 0, none⟩) y.size (grownCap W y.size 0 e) := by
    rw [hd1]
    simp [Act.eval, Act.put, hlt]
  have hys : (bytesOf y).length = y.size := bytesOf_length y
  have HR : Kd.C (Kd.int .u8) (Lib.bytesWorld W e y) (some ⟨W.heap.size, 0, none⟩) y.size (bytesOf y) := by
    refine Kd.C_of_reads (d := 0) ⟨hys, by omega, fun _ => ⟨_, rfl, fun j hj => ?_⟩⟩
    rw [Addr.add_lit, Nat.zero_add, Lib.bytesWorld_cell W e y j hj, bytesOf_get y j hj]
  refine Kd.R_append_rows (Kd.int .u8) (w0 := w0) base hg2 (.tmp ta) (.tmp tx) t e (.int .u8 0) 1 ho2 ht hinfo rfl (by decide) (by decide) v xs (bytesOf y) (some ⟨W.heap.size, 0, none⟩) y.size (grownCap W y.size 0 e) ok (fun _ => False) hev1 hev2
    (Kd.R_below HO hbel) HR (fun _ _ hk => hk) (fun _ hk => hk.elim) (fun k hk => hfresh k (by rw [Lib.bytesWorld_size] at hk; omega)) (HB.grown hgb hbase (by intro k hk; simp at hk)) (by rw [Lib.bytesWorld_size]; omega) (by omega) ?_
  intro v1 w1 ho hb hg hat
  refine h v1 w1 _ ho hb ((hgb.but v.ownBlock).trans hg) ?_
  rcases hat with hat | ⟨b, hb1, hb2⟩
  · exact .inl hat
  · exact .inr ⟨b, hb1, by rw [Lib.bytesWorld_size] at hb2; omega⟩
end
end Go.Proofs.YtgppfalpncbmbaaDoor.PxConv
