/- A disk of the call's own, and what its calls do, told with bounds below which nothing turns. -/
import Derived.Test.YtpmlmjbhgonegaaDiskB
import Derived.Test.YtpmlmjbhgonegaaGrow
import Derived.Deep.Slices
namespace Go.Proofs.Ytpmlmjbhgonegaa
open Go.RowKit

/-- A block of one byte. -/
def blockOf (c : UInt8) : List UInt8 := List.replicate 64 c
theorem blockOf_length (c : UInt8) : (blockOf c).length = 64 := by simp [blockOf]
theorem blockOf_inj {a b : UInt8} (h : blockOf a = blockOf b) : a = b := by
  have := congrArg (fun l => l[0]?) h
  simpa [blockOf, List.replicate_succ] using this

/-- A disk of the call's own: its blocks lie from B on; below B the world is as it was. -/
structure DSt (B : Nat) (w0 w : World) (p r : Nat) (D : DK) : Prop where
  disk : DiskAt w p r D
  below : Below B w0 w
  hp : B ≤ p
  hr : B ≤ r
  hB : B ≤ w.heap.size

abbrev Two (p r : Nat) : Nat → Prop := fun k => k = p ∨ k = r

theorem DSt.next {B : Nat} {w0 w w' : World} {p r : Nat} {D D' : DK} (h : DSt B w0 w p r D) (k : Only (Two p r) w w') (hd : DiskAt w' p r D') : DSt B w0 w' p r D' :=
  ⟨hd, k.below h.below h.hB (fun i hi => by rcases hi with rfl | rfl; exact h.hp; exact h.hr), h.hp, h.hr, Nat.le_trans h.hB k.size⟩
theorem DSt.same {B : Nat} {w0 w w' : World} {p r : Nat} {D : DK} (h : DSt B w0 w p r D) (k : Only (fun _ => False) w w') : DSt B w0 w' p r D :=
  h.next (k.mono (fun _ _ h => h.elim)) (h.disk.only k (fun h => h) (fun h => h))
/-- A store into a block of the call's own that is not the disk's. -/
theorem DSt.put {B : Nat} {w0 w : World} {p r : Nat} {D : DK} (h : DSt B w0 w p r D) (b o : Nat) (v : Value) (hB : B ≤ b) (hp : b ≠ p) (hr : b ≠ r) : DSt B w0 (w.setCell ⟨b, o, none⟩ v) p r D :=
  ⟨h.disk.only ((Only.refl _ w).put o v) (fun e => hp e.symm) (fun e => hr e.symm), h.below.setCell hB v, h.hp, h.hr, Nat.le_trans h.hB (by simp [World.setCell])⟩
theorem Only.two {w w' : World} (p r : Nat) (k : Only (fun _ => False) w w') : Only (Two p r) w w' := k.mono (fun _ _ h => h.elim)

theorem new_st (B : Nat) (w0 w : World) (n : Int) (h1 : 1 ≤ n) (h2 : n ≤ 4096) (hB : B ≤ w.heap.size) (hb : Below B w0 w) :
    Calls Try.prog 10 #[.int .i64 n] w fun e w' => ∃ p r, e = .returned (.tuple #[.pointer (some ⟨p, 0, none⟩), .int .i64 0]) ∧ DSt B w0 w' p r ⟨n, false, -1, 0, fun _ => none⟩ ∧ Only (fun _ => False) w w' ∧ w.heap.size ≤ p ∧ w.heap.size ≤ r := by
  refine (new_calls w n h1 h2).mono ?_
  rintro e w' ⟨rfl, hd, ho⟩
  exact ⟨_, _, rfl, ⟨hd, ho.below hb hB (fun _ h => h.elim), by omega, hB, Nat.le_trans hB ho.size⟩, ho, by omega, by omega⟩

theorem DK.write_len (D : DK) (i : Int) (l : List UInt8) : (D.write i l).1.len = D.len := by
  unfold DK.write
  split
  · rfl
  · split
    · rfl
    · split <;> rfl

/-- Bounds that hold of any disk within its first so many writes. -/
structure DK.fine (D : DK) : Prop where
  fuse : D.fuse ≤ 9223372036854775807
  lo : 0 ≤ D.writes
  hi : D.writes < 9223372036854775807

theorem write_st {B : Nat} {w0 w : World} {p r : Nat} {D : DK} (h : DSt B w0 w p r D) (i : Int) (a : Option Addr) (l : List UInt8) (n c : Nat) (hn : l.length = n) (hr : SliceAt w a l) (hf : D.fine) :
    Calls Try.prog 32 #[.pointer (some ⟨p, 0, none⟩), .int .i64 i, .slice a n c] w fun e w' => e = .returned (.int .i64 (D.write i l).2) ∧ DSt B w0 w' p r (D.write i l).1 ∧ Only (Two p r) w w' := by
  subst hn
  refine (write_calls w p r D i a l c h.disk hr hf.fuse hf.lo hf.hi).mono ?_
  rintro e w' ⟨rfl, hd, ho⟩
  exact ⟨rfl, h.next ho hd, ho⟩

theorem read_st {B : Nat} {w0 w : World} {p r : Nat} {D : DK} (h : DSt B w0 w p r D) (i : Int) (hc : D.code i = 0) :
    Calls Try.prog 14 #[.pointer (some ⟨p, 0, none⟩), .int .i64 i] w fun e w' => ∃ b, e = .returned (.tuple #[.slice (some ⟨b, 0, none⟩) 64 64, .int .i64 0]) ∧ RowAt w' ⟨b, 0, none⟩ (D.get i) ∧ (D.get i).length = 64 ∧ DSt B w0 w' p r D ∧ Only (fun _ => False) w w' ∧ w.heap.size ≤ b := by
  refine (read_calls w p r D i h.disk hc).mono ?_
  rintro e w' ⟨rfl, rfl⟩
  exact ⟨_, rfl, .of_cells (heap_alloc_new _ _), DK.get_long h.disk i, h.same ((Only.refl _ w).alloc _), (Only.refl _ w).alloc _, Nat.le_refl _⟩

theorem boot_st {B : Nat} {w0 w : World} {p r : Nat} {D : DK} (h : DSt B w0 w p r D) :
    Calls Try.prog 26 #[.pointer (some ⟨p, 0, none⟩)] w fun e w' => e = .returned (.tuple #[]) ∧ DSt B w0 w' p r D.booted ∧ Only (Two p r) w w' := by
  refine (boot_calls w p r D h.disk).mono ?_
  rintro e w' ⟨rfl, hd, ho⟩
  have ho' : Only (Two p r) w w' := ho.mono (fun _ _ => Or.inl)
  exact ⟨rfl, h.next ho' hd, ho'⟩

theorem fuse_st {B : Nat} {w0 w : World} {p r : Nat} {D : DK} (h : DSt B w0 w p r D) (i : Int) :
    Calls Try.prog 25 #[.pointer (some ⟨p, 0, none⟩), .int .i64 i] w fun e w' => e = .returned (.tuple #[]) ∧ DSt B w0 w' p r (D.fused i) ∧ Only (Two p r) w w' := by
  refine (fuse_calls w p r D i h.disk).mono ?_
  rintro e w' ⟨rfl, hd, ho⟩
  have ho' : Only (Two p r) w w' := ho.mono (fun _ _ => Or.inl)
  exact ⟨rfl, h.next ho' hd, ho'⟩

theorem on_st {B : Nat} {w0 w : World} {p r : Nat} {D : DK} (h : DSt B w0 w p r D) :
    Calls Try.prog 21 #[.pointer (some ⟨p, 0, none⟩)] w fun e w' => e = .returned (.bool (!D.off)) ∧ w = w' := on_calls w p r D h.disk
theorem writes_st {B : Nat} {w0 w : World} {p r : Nat} {D : DK} (h : DSt B w0 w p r D) :
    Calls Try.prog 28 #[.pointer (some ⟨p, 0, none⟩)] w fun e w' => e = .returned (.int .i64 D.writes) ∧ w = w' := writes_calls w p r D h.disk

theorem RowAt.two {w w' : World} {B p r b : Nat} {w0 : World} {D : DK} {l : List UInt8} (h : RowAt w ⟨b, 0, none⟩ l) (hs : DSt B w0 w p r D) (k : Only (Two p r) w w') (hl : 0 < l.length) : RowAt w' ⟨b, 0, none⟩ l :=
  h.only k (fun e => by have := hs.disk.row_ne h hl; rcases e with e | e; exact this.1 e; exact this.2 e) (h.lt hl)

theorem RowAt.grow {w w' : World} {b : Nat} {l : List UInt8} (h : RowAt w ⟨b, 0, none⟩ l) (k : Only (fun _ => False) w w') (hl : 0 < l.length) : RowAt w' ⟨b, 0, none⟩ l :=
  h.only k (fun e => e) (h.lt hl)
theorem RowAt.drew {w : World} {a : Addr} {l : List UInt8} (h : RowAt w a l) : RowAt w.drew a l := h
theorem DSt.drew {B : Nat} {w0 w : World} {p r : Nat} {D : DK} (h : DSt B w0 w p r D) : DSt B w0 w.drew p r D := ⟨⟨h.disk.cells, h.disk.map, h.disk.long⟩, h.below.drew, h.hp, h.hr, h.hB⟩

theorem conv_any (l : List UInt8) (hl : l.length = 64) (b : Nat) (w : World) (h : RowAt w ⟨b, 0, none⟩ l) : (convert 32 9 (.slice (some ⟨b, 0, none⟩) 64 64)).run Try.prog w = .ok (.string (strOf l)) w :=
  run_convert_row Try.underlying32 Try.underlying5 Try.underlying9 64 64 hl h

/-- An int of 64 bits. -/
def I64 (n : Int) : Prop := -9223372036854775808 ≤ n ∧ n ≤ 9223372036854775807

theorem add_part (x : Addr) (n j : Nat) : x.add (n + (j + 1)) = ⟨(x.add n).block, (x.add n).off + (j + 1), none⟩ := by
  rw [← Go.Deep.add_add]; rfl

theorem wf64 {n : Int} (h : (Lit.int .i64 n).wf = true) : I64 n := by
  simpa [I64, Lit.wf, IntKind.min, IntKind.max, IntKind.signed, IntKind.bits] using h
theorem wf8 {n : Int} (h : (Lit.int .u8 n).wf = true) : Value.int .u8 n = bv (UInt8.ofNat n.toNat) := by
  have hb : 0 ≤ n ∧ n ≤ 255 := by simpa [Lit.wf, IntKind.min, IntKind.max, IntKind.signed, IntKind.bits] using h
  unfold bv
  rw [UInt8.toNat_ofNat']
  congr 1
  omega

/-- A cell of a row of bytes. -/
theorem bvs_cell {w : World} {b : Nat} {l : List UInt8} {t : TypeId} (h : w.heap[b]? = some (.cells (bvs l) t (0, 0))) {j : Nat} (hj : j < l.length) : w.cell? ⟨b, j, none⟩ = some (bv (l.getD j 0)) := by
  rw [cellOf h, bvs_get, List.getElem?_eq_getElem hj, List.getD_eq_getElem?_getD, List.getElem?_eq_getElem hj]
  rfl

def zerosN (n : Nat) : List UInt8 := List.replicate n 0
theorem zerosN_length (n : Nat) : (zerosN n).length = n := by simp [zerosN]
theorem made_bytes (n : Nat) : madeCells (Value.int .u8 0).cells n = bvs (zerosN n) := by
  apply Array.ext
  · simp [madeCells, bvs, zerosN]
  · intro i h1 h2
    simp [madeCells, bvs, zerosN, bv, Value.cells, Nat.mod_one]
theorem u8Info : (Try.prog.info? 5).map (fun i => (i.zero, i.size, i.bytes)) = some (some (.int .u8 0), 1, 1) := by kernel_rfl
theorem run_make_bytes (w : World) (n : Nat) (hn : n ≤ 1000000) :
    (Instr.makeSlice 32 (.int .i64 (n : Int)) (.int .i64 (n : Int))).run Try.prog w = .ok (.slice (some ⟨w.heap.size, 0, none⟩) n n) (w.alloc (.cells (bvs (zerosN n)) 5)) := by
  obtain ⟨i, hi, hz0, hz1, hz2⟩ := info_parts u8Info
  have h := run_make (P := Try.prog) w 32 5 i (.int .u8 0) Try.underlying32 hi hz0 .i64 .i64 n n (by omega) (Int.le_refl _) (by rw [hz2]; omega) (by omega)
  rw [h, hz1]
  simp only [Int.toNat_natCast, Nat.mul_one, made_bytes]

theorem DK.write_yes {D : DK} {i : Int} {l : List UInt8} (he : (D.write i l).2 = 0) : D.code i = 0 ∧ (D.write i l).1.code i = 0 ∧ (D.write i l).1.get i = l := by
  unfold DK.write at he ⊢
  split at he
  · rename_i hc; exact absurd he hc
  · rename_i hc
    rw [if_neg hc]
    split at he
    · simp at he
    · rename_i hl
      rw [if_neg hl]
      split at he
      · simp at he
      · rename_i hf
        rw [if_neg hf]
        have e1 : (D.wrote i l).code i = D.code i := rfl
        have e2 : D.code i = 0 := by simpa using hc
        refine ⟨e2, e1.trans e2, ?_⟩
        simp [DK.get, DK.wrote]
theorem DK.write_no {D : DK} {i : Int} {l : List UInt8} (he : (D.write i l).2 ≠ 0) (hc : (D.write i l).1.code i = 0) : (D.write i l).1.get i = D.get i := by
  unfold DK.write at he hc ⊢
  split
  · rfl
  · split
    · rfl
    · split
      · rename_i a b c
        rw [if_neg a, if_neg b, if_pos c] at hc
        simp [DK.code, DK.blown] at hc
      · rename_i a b c
        rw [if_neg a, if_neg b, if_neg c] at he
        simp at he

/-- What Read answers, whatever is asked for. -/
def DK.shows (D : DK) (i : Int) : List UInt8 := if D.code i = 0 then D.get i else []
theorem read_any {B : Nat} {w0 w : World} {p r : Nat} {D : DK} (h : DSt B w0 w p r D) (i : Int) :
    Calls Try.prog 14 #[.pointer (some ⟨p, 0, none⟩), .int .i64 i] w fun e w' => ∃ a n c, e = .returned (.tuple #[.slice a n c, .int .i64 (D.code i)]) ∧ n = (D.shows i).length ∧ SliceAt w' a (D.shows i) ∧ DSt B w0 w' p r D ∧ Only (fun _ => False) w w' ∧ n ≤ c := by
  unfold DK.shows
  by_cases hc : D.code i = 0
  · rw [if_pos hc, hc]
    refine (read_st h i hc).mono ?_
    rintro e w' ⟨b, rfl, hr, hl, hs, ho, _⟩
    exact ⟨_, _, _, rfl, hl.symm, .of_row hr, hs, ho, Nat.le_refl _⟩
  · rw [if_neg hc]
    refine (read_no w p r D i h.disk hc).mono ?_
    rintro e w' ⟨rfl, rfl⟩
    exact ⟨_, _, _, rfl, rfl, .nil _ _, h, Only.refl _ _, Nat.le_refl _⟩

theorem SliceAt.only {S : Nat → Prop} {w w' : World} {a : Option Addr} {l : List UInt8} (h : SliceAt w a l) (k : Only S w w') (hs : ∀ ad, a = some ad → l ≠ [] → ¬ S ad.block) : SliceAt w' a l := by
  refine ⟨fun ad e => ?_, h.there⟩
  by_cases hl : l = []
  · subst hl; intro i b e; simp at e
  · have h1 := h.row ad e
    have hp : 0 < l.length := List.length_pos_iff.2 hl
    exact h1.only k (hs ad e hl) (h1.lt hp)
theorem SliceAt.grow {w w' : World} {a : Option Addr} {l : List UInt8} (h : SliceAt w a l) (k : Only (fun _ => False) w w') : SliceAt w' a l := h.only k (fun _ _ _ h => h)
theorem SliceAt.two {w w' : World} {B p r : Nat} {w0 : World} {D : DK} {a : Option Addr} {l : List UInt8} (h : SliceAt w a l) (hs : DSt B w0 w p r D) (k : Only (Two p r) w w') : SliceAt w' a l :=
  h.only k (fun ad e hl hx => by
    have := hs.disk.row_ne (h.row ad e) (List.length_pos_iff.2 hl)
    rcases hx with hx | hx
    · exact this.1 hx
    · exact this.2 hx)

/-- A result of several. -/
def tupAt (v : Value) (i : Nat) : Value := match v with
  | .tuple vs => vs.getD i undef
  | _ => undef
/-- What Read hands back. -/
def ReadRes (D : DK) (i : Int) (v : Value) (w : World) : Prop := ∃ a n c, v = .tuple #[.slice a n c, .int .i64 (D.code i)] ∧ n = (D.shows i).length ∧ SliceAt w a (D.shows i) ∧ n ≤ c
theorem ReadRes.grow {D : DK} {i : Int} {v : Value} {w w' : World} (h : ReadRes D i v w) (k : Only (fun _ => False) w w') : ReadRes D i v w' := by
  obtain ⟨a, n, c, h1, h2, h3, h4⟩ := h
  exact ⟨a, n, c, h1, h2, h3.grow k, h4⟩
/-- A block of these bytes, new. -/
def BlockRes (l : List UInt8) (v : Value) (w : World) : Prop := ∃ b, v = .slice (some ⟨b, 0, none⟩) 64 64 ∧ RowAt w ⟨b, 0, none⟩ l
theorem BlockRes.grow {l : List UInt8} (hl : 0 < l.length) {v : Value} {w w' : World} (h : BlockRes l v w) (k : Only (fun _ => False) w w') : BlockRes l v w' := by
  obtain ⟨b, h1, h2⟩ := h
  exact ⟨b, h1, h2.grow k hl⟩

theorem conv_slice (l : List UInt8) (a : Option Addr) (n c : Nat) (hn : n = l.length) (w : World) (h : SliceAt w a l) : (convert 32 9 (.slice a n c)).run Try.prog w = .ok (.string (strOf l)) w := by
  cases a with
  | some ad => exact run_convert_row Try.underlying32 Try.underlying5 Try.underlying9 n c hn.symm (h.row ad rfl)
  | none =>
    have hl : l = [] := by
      apply Classical.byContradiction
      intro hl
      obtain ⟨ad, e⟩ := h.there hl
      cases e
    subst hl
    rw [run_convert_bytes_string w 32 9 5 _ _ _ Try.underlying32 Try.underlying5 Try.underlying9]
    rfl
end Go.Proofs.Ytpmlmjbhgonegaa
