/- Chapter 5's shown: the document's examples. -/
import Derived.Test.YtiobdnnijbfdhaaDoorTabParse
import Derived.Lib.SlBytesConst
namespace Go.Proofs.YtiobdnnijbfdhaaDoor.PT
open Go.Proofs.YtiobdnnijbfdhaaDoor (cellOf)
open Go.RowKit Go.Proofs.YtiobdnnijbfdhaaDoorW.PrintWords Go.Proofs.YtiobdnnijbfdhaaDoorW.PrintLast Go.Proofs.YtiobdnnijbfdhaaDoorW.PrintMore
set_option linter.unusedVariables false
set_option linter.unusedSimpArgs false
def sGrp : ByteArray := ⟨#[103, 114, 111, 117, 112, 115]⟩
def shRows : List S34 := [⟨⟨#[111, 112, 115]⟩, [⟨#[49, 48]⟩]⟩, ⟨⟨#[119, 104, 101, 101, 108]⟩, [⟨#[48]⟩]⟩]
theorem sh1 : tables_Print.f 60 sGrp shRows = some ([111, 112, 115, 58, 49, 48, 10, 119, 104, 101, 101, 108, 58, 48, 10], 0) := by kernel_rfl
theorem sh2 : tables_Parse.f 60 sGrp [111, 112, 115, 58, 49, 48, 10] = some ([⟨⟨#[111, 112, 115]⟩, [⟨#[49, 48]⟩]⟩], 0) := by kernel_rfl
theorem sh3 : tables_Parse.f 60 sGrp [111, 112, 115, 58, 49, 48] = some ([], 51) := by kernel_rfl
theorem sh4 : tables_Parse.f 60 sGrp [] = some ([], 0) := by kernel_rfl
theorem sh5 : tables_Check.f 60 ⟨#[109, 111, 117, 110, 116, 115]⟩ ⟨#[97]⟩ [] = some 50 := by kernel_rfl
theorem str_lit (w : World) (s : ByteArray) : Kd.string.C (w.alloc (.cells #[.string s] 9)) (some ⟨w.heap.size, 0, none⟩) 1 [s] := by
  refine ⟨rfl, by decide, fun _ => ⟨_, rfl, fun j p hj => ?_⟩⟩
  match j, hj with
  | 0, hj =>
    cases hj
    refine ⟨[.string s], rfl, rfl, fun i u hu => ?_⟩
    match i, hu with
    | 0, hu => cases hu; exact (cellOf (heap_alloc_new w _) 0).trans rfl
  | j + 1, hj => simp at hj
theorem int_lit (w : World) (l : List Int) (hl : l.length ≤ 1000) (fr : Nat × Nat) : Kd.C (Kd.int .u8) (w.alloc (.cells (l.map (Value.int .u8)).toArray 5 fr)) (some ⟨w.heap.size, 0, none⟩) l.length l := by
  refine ⟨rfl, by omega, fun _ => ⟨_, rfl, fun j p hj => ⟨[.int .u8 p], rfl, rfl, fun i u hu => ?_⟩⟩⟩
  match i, hu with
  | 0, hu =>
    cases hu
    rw [show (⟨w.heap.size, 0, none⟩ : Addr).add (j * (Kd.int .u8).sz + 0) = ⟨w.heap.size, j, none⟩ by
      rw [show j * (Kd.int .u8).sz + 0 = j from Nat.mul_one j]
      unfold Addr.add
      split
      · rename_i hj; rw [hj]
      · simp]
    refine (cellOf (heap_alloc_new w _) j).trans ?_
    simp [hj]
theorem shown_rows (w : World) (a b c d : ByteArray) : Kd.C k34 (((w.alloc (.cells #[.string b] 9)).alloc (.cells #[.string d] 9)).alloc (.cells #[.string a, .slice (some ⟨w.heap.size, 0, none⟩) 1 1, .string c, .slice (some ⟨w.heap.size + 1, 0, none⟩) 1 1] 34)) (some ⟨w.heap.size + 1 + 1, 0, none⟩) 2 [⟨a, [b]⟩, ⟨c, [d]⟩] := by
  obtain ⟨w1, hw1⟩ : ∃ q, q = w.alloc (.cells #[.string b] 9) := ⟨_, rfl⟩
  obtain ⟨w2, hw2⟩ : ∃ q, q = w1.alloc (.cells #[.string d] 9) := ⟨_, rfl⟩
  have z1 : w1.heap.size = w.heap.size + 1 := by rw [hw1, World.size_alloc]
  have z2 : w2.heap.size = w.heap.size + 1 + 1 := by rw [hw2, World.size_alloc, z1]
  have h1 : Kd.string.C w2 (some ⟨w.heap.size, 0, none⟩) 1 [b] := by rw [hw2, hw1]; exact Kd.C_below (str_lit w b) (below_alloc (Below.refl _ _) _)
  have h2 : Kd.string.C w2 (some ⟨w.heap.size + 1, 0, none⟩) 1 [d] := by rw [hw2, ← z1]; exact str_lit w1 d
  rw [← hw1, ← hw2, ← z2]
  have hn := heap_alloc_new w2 (.cells #[.string a, .slice (some ⟨w.heap.size, 0, none⟩) 1 1, .string c, .slice (some ⟨w.heap.size + 1, 0, none⟩) 1 1] 34)
  have b1 := Kd.C_below h1 (below_alloc (Below.refl _ w2) (.cells #[.string a, .slice (some ⟨w.heap.size, 0, none⟩) 1 1, .string c, .slice (some ⟨w.heap.size + 1, 0, none⟩) 1 1] 34))
  have b2 := Kd.C_below h2 (below_alloc (Below.refl _ w2) (.cells #[.string a, .slice (some ⟨w.heap.size, 0, none⟩) 1 1, .string c, .slice (some ⟨w.heap.size + 1, 0, none⟩) 1 1] 34))
  refine ⟨rfl, by decide, fun _ => ⟨_, rfl, fun j p hj => ?_⟩⟩
  match j, hj with
  | 0, hj =>
    cases hj
    refine ⟨_, rfl, k34_mk _ ⟨a, [b]⟩ (c1 := 1) (Nat.le_refl _) b1, fun i u hu => ?_⟩
    match i, hu with
    | 0, hu => cases hu; exact (cellOf hn 0).trans rfl
    | 1, hu => cases hu; exact (cellOf hn 1).trans rfl
  | 1, hj =>
    cases hj
    refine ⟨_, rfl, k34_mk _ ⟨c, [d]⟩ (c1 := 1) (Nat.le_refl _) b2, fun i u hu => ?_⟩
    match i, hu with
    | 0, hu => cases hu; exact (cellOf hn 2).trans rfl
    | 1, hu => cases hu; exact (cellOf hn 3).trans rfl
  | j + 2, hj => simp at hj
set_option maxRecDepth 20000 in
set_option maxHeartbeats 2000000 in
theorem shown_calls (w : World) : Calls Tryd.prog 8 #[] w fun e w' => e = .returned (.bool true) ∧ Below w.heap.size w w' := by
  have kc := fun (w : World) (C : Array Value) (n c : Nat) => Lib.run_convert_bytes_const (P := Tryd.prog) w 25 5 C n c Tryd.underlying25 Tryd.underlying5
  go_enter Tryd.func8, Tryd.ntmps8
  go_wp2_with fail
  refine (tables_Print.calls 60 sGrp _ 2 shRows _ _ _ (shown_rows w ⟨#[111, 112, 115]⟩ ⟨#[49, 48]⟩ ⟨#[119, 104, 101, 101, 108]⟩ ⟨#[48]⟩) (Nat.le_refl _) sh1).mono ?_
  rintro e w1 ⟨A1, c1, rfl, hc1, hC1, hb1⟩
  have hb1' := below_step (below_alloc (below_alloc (below_alloc (Below.refl _ w) _) _) _) hb1
  clear hb1
  have HB1 := Aside0.mk hb1'
  have HC1 := Aside0.mk hC1
  clear hb1' hC1
  go_wp2_with fail
  refine (tables_Parse.calls 60 sGrp _ 7 _ _ _ _ (int_lit w1 _ (by decide) (7, 8)) (Nat.le_refl _) sh2).mono ?_
  rintro e w2 ⟨A2, c2, rfl, hc2, hC2, hb2⟩
  have HB2 := Aside0.mk (below_step HB1.out (below_step (below_alloc (Below.refl _ w1) _) hb2))
  have HC1b := Aside0.mk (Kd.C_below HC1.out (below_step (below_alloc (Below.refl _ w1) _) hb2))
  have HC2 := Aside0.mk hC2
  clear hb2 hC2 HC1
  go_wp2_with fail
  refine (tables_Parse.calls 60 sGrp _ 6 _ _ _ _ (int_lit w2 _ (by decide) (6, 7)) (Nat.le_refl _) sh3).mono ?_
  rintro e w3 ⟨A3, c3, rfl, hc3, hC3, hb3⟩
  have HB3 := Aside0.mk (below_step HB2.out (below_step (below_alloc (Below.refl _ w2) _) hb3))
  have HC1c := Aside0.mk (Kd.C_below HC1b.out (below_step (below_alloc (Below.refl _ w2) _) hb3))
  have HC2c := Aside0.mk (Kd.C_below HC2.out (below_step (below_alloc (Below.refl _ w2) _) hb3))
  clear hb3 hC3 HC1b HC2
  go_wp2_with fail
  refine (tables_Parse.calls 60 sGrp none 0 [] _ _ _ (bytes_none _) (Nat.le_refl _) sh4).mono ?_
  rintro e w4 ⟨A4, c4, rfl, hc4, hC4, hb4⟩
  have HB4 := Aside0.mk (below_step HB3.out hb4)
  have HC1d := Aside0.mk (Kd.C_below HC1c.out hb4)
  have HC2d := Aside0.mk (Kd.C_below HC2c.out hb4)
  clear hb4 hC4 HC1c HC2c
  go_wp2_with fail
  refine (tables_Check.calls 60 ⟨#[109, 111, 117, 110, 116, 115]⟩ ⟨#[97]⟩ none 0 [] _ _ ((Kd.R_reads' (Kd.R_nil Kd.string 9 w4 0 (fun _ => True))).2.2) (Nat.le_refl _) sh5).mono ?_
  rintro e w5 ⟨rfl, hb5⟩
  have HB5 := Aside0.mk (below_step HB4.out hb5)
  have s1 := Kd.C_string (P := Tryd.prog) (c := c1) Tryd.underlying25 Tryd.underlying5 Tryd.underlying9 (Kd.C_below HC1d.out hb5)
  obtain ⟨ad, A1', c1', rfl, hcell, _⟩ := at_T34 (Kd.C_below HC2d.out hb5) 0 (by decide) (by decide)
  have hcell' : w5.cell? ad = some (.string ⟨#[111, 112, 115]⟩) := hcell
  have se : strOfNums [111, 112, 115, 58, 49, 48, 10, 119, 104, 101, 101, 108, 58, 48, 10] = ⟨#[111, 112, 115, 58, 49, 48, 10, 119, 104, 101, 101, 108, 58, 48, 10]⟩ := by kernel_rfl
  rw [se] at s1
  replace s1 : (convert 25 9 (.slice A1 15 c1)).run Tryd.prog w5 = .ok (.string ⟨#[111, 112, 115, 58, 49, 48, 10, 119, 104, 101, 101, 108, 58, 48, 10]⟩) w5 := s1
  clear hb5 HC1d HC2d hcell se
  go_wp2_with fail
  go_ret
  exact ⟨rfl, HB5.out⟩
end Go.Proofs.YtiobdnnijbfdhaaDoor.PT
