/- tables.Parse: a text's lines, each cut at its colons. -/
import Derived.Test.YtiobdnnijbfdhaaDoorTabLines
namespace Go.Proofs.YtiobdnnijbfdhaaDoor.PT
open Go.RowKit Go.Proofs.YtiobdnnijbfdhaaDoorW.PrintWords Go.Proofs.YtiobdnnijbfdhaaDoorW.PrintLast Go.Proofs.YtiobdnnijbfdhaaDoorW.PrintMore
set_option linter.unusedVariables false
set_option linter.unusedSimpArgs false
attribute [local go_sem] Oper.semAt_some
def rowOf (k : Nat) (x : ByteArray) : Option S34 := (strings_TrimSuffix.f x ⟨#[10]⟩).bind fun t => (strings_Split.f k t ⟨#[58]⟩).bind fun ws => match ws with
  | [] => none
  | key :: cells => if cells.length ≤ 1048576 then some ⟨key, cells⟩ else none
def rowsOf (k : Nat) : List ByteArray → Option (List S34)
  | [] => some []
  | x :: l => (rowOf k x).bind fun r => (rowsOf k l).bind fun rs => some (r :: rs)
theorem rowsOf_snoc (k : Nat) : ∀ (l : List ByteArray) (x : ByteArray) {rs : List S34} {r : S34}, rowsOf k l = some rs → rowOf k x = some r → rowsOf k (l ++ [x]) = some (rs ++ [r])
  | [], x, rs, r, h, hx => by
    cases h
    simp [rowsOf, hx]
  | y :: l, x, rs, r, h, hx => by
    simp only [rowsOf] at h
    obtain ⟨a, ha, h⟩ := Option.bind_eq_some_iff.1 h
    obtain ⟨b, hb, h⟩ := Option.bind_eq_some_iff.1 h
    cases h
    simp only [List.cons_append, rowsOf, ha, Option.bind_some, rowsOf_snoc k l x hb hx]
theorem rowsOf_len (k : Nat) : ∀ (l : List ByteArray) {rs : List S34}, rowsOf k l = some rs → rs.length = l.length
  | [], rs, h => by cases h; rfl
  | y :: l, rs, h => by
    simp only [rowsOf] at h
    obtain ⟨a, ha, h⟩ := Option.bind_eq_some_iff.1 h
    obtain ⟨b, hb, h⟩ := Option.bind_eq_some_iff.1 h
    cases h
    simp [rowsOf_len k l hb]
theorem rowsOf_at (k : Nat) : ∀ (l m : List ByteArray) (x : ByteArray) {rs : List S34}, rowsOf k (l ++ x :: m) = some rs → ∃ r, rowOf k x = some r
  | [], m, x, rs, h => by
    simp only [List.nil_append, rowsOf] at h
    obtain ⟨a, ha, h⟩ := Option.bind_eq_some_iff.1 h
    exact ⟨a, ha⟩
  | y :: l, m, x, rs, h => by
    simp only [List.cons_append, rowsOf] at h
    obtain ⟨a, ha, h⟩ := Option.bind_eq_some_iff.1 h
    obtain ⟨b, hb, h⟩ := Option.bind_eq_some_iff.1 h
    exact rowsOf_at k l m x hb
def tables_Parse.f (k : Nat) (a0 : ByteArray) (l0 : List Int) : Option (List S34 × Int) :=
  if widthOf a0 = 0 then some ([], 50) else
  if l0.length ≤ 1048576 then
    (rowsOf k ((linesOf (strOfNums l0)).take 33)).bind fun rs => if 33 < (linesOf (strOfNums l0)).length then some ([], 51) else
      (tables_Print.f k a0 rs).bind fun p => if p.2 = 0 ∧ (strOfNums p.1).toList = (strOfNums l0).toList then some (rs, 0) else some ([], 51)
  else none
structure PSt (w W : World) (k b6 Bs : Nat) (v : Value) (pre : List ByteArray) : Prop where
  b0 : Boxed W w.heap.size 22 (.slice none 0 0)
  b1 : Boxed W (w.heap.size + 1) 26 (.int .i64 0)
  b2 : Boxed W b6 22 v
  bel : Below w.heap.size w W
  len : pre.length ≤ 33
  sz : Bs < W.heap.size
  row : ∃ rs, rowsOf k pre = some rs ∧ Kd.R k34 34 W w.heap.size (fun q => q ≠ Bs) v rs
structure PEnd (w W : World) (pre : List ByteArray) : Prop where
  b0 : Boxed W w.heap.size 22 (.slice none 0 0)
  b1 : Boxed W (w.heap.size + 1) 26 (.int .i64 51)
  bel : Below w.heap.size w W
  bad : 33 < pre.length
theorem PSt.own {w : World} {k b6 Bs base : Nat} (hb6 : b6 < base) (hb : w.heap.size + 1 < base) : OwnFrom base (fun (pre : List ByteArray) W => ∃ v, PSt w W k b6 Bs v pre) := by
  rintro pre A A' row ⟨v, h⟩ hg hr
  have hne : ∀ k, k < base → some k ≠ row := fun k hk e => by have := (hr k e.symm).1; omega
  obtain ⟨rs, hrs, hrow⟩ := h.row
  refine ⟨v, h.b0.kept hg (hne _ (by omega)), h.b1.kept hg (hne _ (by omega)), h.b2.kept hg (hne _ hb6), h.bel.grown hg h.bel.size (fun k e => by have := (hr k e).1; omega), h.len, Nat.lt_of_lt_of_le h.sz hg.size, rs, hrs, ?_⟩
  refine Kd.R_mono (Kd.R_grown (Kd.R_bound hrow) hg (fun k hk e => ?_)) (fun _ hk => hk.1)
  obtain ⟨_, _, _, q, _, cells, hc⟩ := hk
  obtain ⟨_, o, ho, hoc⟩ := hr k e.symm
  rw [hc] at ho
  cases ho
  cases hoc
theorem PEnd.own {w : World} {base : Nat} (hb : w.heap.size + 1 < base) (c : Code) : OwnFrom base (fun (pre : List ByteArray) W => c = .ret ∧ PEnd w W pre) := by
  rintro pre A A' row ⟨hc, h⟩ hg hr
  have hne : ∀ k, k < base → some k ≠ row := fun k hk e => by have := (hr k e.symm).1; omega
  exact ⟨hc, h.b0.kept hg (hne _ (by omega)), h.b1.kept hg (hne _ (by omega)), h.bel.grown hg h.bel.size (fun k e => by have := (hr k e).1; omega), h.bad⟩
theorem PSt.box {w : World} {k b6 Bs : Nat} (h1 : w.heap.size + 1 < Bs) (h2 : b6 ≠ Bs) : BoxAb Bs 9 (fun (pre : List ByteArray) W => ∃ v, PSt w W k b6 Bs v pre) := by
  rintro pre W v v' ⟨u, h⟩ hb
  obtain ⟨rs, hrs, hrow⟩ := h.row
  exact ⟨u, h.b0.other (by omega) _, h.b1.other (by omega) _, h.b2.other h2 _, h.bel.setCell (p := ⟨Bs, 0, none⟩) (by show w.heap.size ≤ Bs; omega) _, h.len, by rw [World.size_setCell]; exact h.sz, rs, hrs, Kd.R_far hrow (p := ⟨Bs, 0, none⟩) (fun k hk => hk) _⟩
theorem PEnd.box {w : World} {Bs : Nat} (h1 : w.heap.size + 1 < Bs) (c : Code) : BoxAb Bs 9 (fun (pre : List ByteArray) W => c = .ret ∧ PEnd w W pre) := by
  rintro pre W v v' ⟨hc, h⟩ hb
  exact ⟨hc, h.b0.other (by omega) _, h.b1.other (by omega) _, h.bel.setCell (p := ⟨Bs, 0, none⟩) (by show w.heap.size ≤ Bs; omega) _, h.bad⟩
theorem c_nil (w : World) : Kd.C k34 w none 0 [] := (Kd.R_reads' (Kd.R_nil k34 34 w 0 (fun _ => True))).2.2
theorem k34i : (Tryd.prog.info? 34).map (fun i => (i.zero, i.size, i.bytes)) = some (some (.agg #[(.string ⟨#[]⟩), (.slice none 0 0)]), 2, 40) := by kernel_rfl
theorem k34_ne (q : Nat) (hq : q ∈ 34 :: k34.E) : q ≠ 22 := by simp [k34, Kd.iso, Kd.pair, Kd.slice, Kd.string, Kd.scalar] at hq; omega
theorem k34_ne' (q : Nat) (hq : q ∈ 34 :: k34.E) : q ≠ 26 := by simp [k34, Kd.iso, Kd.pair, Kd.slice, Kd.string, Kd.scalar] at hq; omega
theorem clone_any (g o : Nat) (cells : List ByteArray) (c : Nat) (w : World) (hn : cells.length ≤ 1048576) (hc : ∀ j, j < cells.length → w.cell? ⟨g, o + j, none⟩ = some (.string (cells.getD j ByteArray.empty))) :
    Calls Tryd.prog 39 #[.slice (some ⟨g, o, none⟩) cells.length c] w fun e w' => ∃ v', e = .returned v' ∧ Kd.string.R 9 w' w.heap.size (fun k => w.heap.size ≤ k) v' cells ∧ Below w.heap.size w w' := by
  refine (Tryd.slices_Clone_string g o cells.length c cells w (Nat.le_refl _) (by omega) hc).mono ?_
  rintro e w' ⟨v', rfl, ho, _, hb⟩
  rw [List.take_length] at ho
  exact ⟨v', rfl, Kd.R_of_own ho (fun k hk => own_base ho k hk), hb⟩
theorem split_parts {W : World} {base : Nat} {ok : Nat → Prop} {v : Value} {key : ByteArray} {cells : List ByteArray} (h : Kd.string.R 9 W base ok v (key :: cells)) :
    ∃ g c o, v = .slice (some ⟨g, 0, none⟩) (cells.length + 1) c ∧ W.cell? ⟨g, 0, none⟩ = some (.string key) ∧ (∀ W', (Instr.slice 32 (.slice (some ⟨g, 0, none⟩) (cells.length + 1) c) (some (.int .i64 1)) none none).run Tryd.prog W' = .ok (.slice (some ⟨g, o, none⟩) cells.length (c - 1)) W') ∧
      (∀ j, j < cells.length → W.cell? ⟨g, o + j, none⟩ = some (.string (cells.getD j ByteArray.empty))) := by
  obtain ⟨ad, c, rfl⟩ := Kd.R_slice1 h (by simp)
  obtain ⟨g, rfl⟩ := Kd.R_head h
  have hc := (Kd.R_reads' h).2.1
  rw [List.length_cons] at h hc ⊢
  refine ⟨g, c, if c = 1 then 0 else 1, rfl, (Kd.R_cell ByteArray.empty h 0 (by omega) (by simp)).1, fun W' => ?_, fun j hj => ?_⟩
  · have hu := Tryd.underlying32
    have hel : Tryd.prog.elem 32 = 9 := by simp [Program.elem, hu]
    have hu2 : Tryd.prog.underlying 32 = some (.slice (Tryd.prog.elem 32)) := by rw [hel]; exact hu
    obtain ⟨i, hi, _, hs, _⟩ := info_parts info9
    rw [run_slice_l W' 32 _ _ c hu2 .i64 1 (by omega) (by omega), hel]
    simp [sizeOf, typeInfo, hi, hs, sliced, Result.andThen, Addr.add]
    split <;> rfl
  · have := (Kd.R_cell ByteArray.empty h ((1 + j : Nat) : Int) (by omega) (by simp; omega)).1
    rw [if_neg (by omega)]
    rw [Int.toNat_natCast] at this
    rw [this]
    refine congrArg (fun z => some (Value.string z)) ?_
    unfold rdOf
    rw [Int.toNat_natCast, Nat.add_comm]
    simp
theorem row_put34 {W : World} {base D n c : Nat} {A : Option Addr} {ok : Nat → Prop} {es : List S34} {o0 : Obj} (h : Kd.R k34 34 W base ok (.slice A n c) es) (hK : W.heap[D]? = some o0) (hc : o0.isCells = false) (o : Obj) : Kd.C k34 (W.putObj D o) A es.length es := by
  refine (Kd.R_reads' (Kd.R_grown (Kd.R_bound h) (grownBy_putObj' W D o) (fun k hk e => ?_))).2.2
  obtain ⟨_, _, _, q, _, cells, hcc⟩ := hk
  cases e
  rw [hK] at hcc
  cases hcc
  cases hc
theorem two_new {w w1 : World} (hb : Below ((w.alloc (.cells #[.slice none 0 0] 22)).alloc (.cells #[.int .i64 0] 26)).heap.size ((w.alloc (.cells #[.slice none 0 0] 22)).alloc (.cells #[.int .i64 0] 26)) w1) :
    Boxed w1 w.heap.size 22 (.slice none 0 0) ∧ Boxed w1 (w.heap.size + 1) 26 (.int .i64 0) ∧ Below w.heap.size w w1 ∧ w.heap.size + 2 ≤ w1.heap.size := by
  have h1 := Boxed.new (w.alloc (.cells #[.slice none 0 0] 22)) 26 (.int .i64 0)
  rw [World.size_alloc] at h1
  have hz := hb.size
  simp only [World.size_alloc] at hz
  exact ⟨blk_below ((Boxed.new w _ _).alloc _) hb, blk_below h1 hb, below_step (below_alloc (below_alloc (Below.refl _ _) _) _) hb, by omega⟩
set_option maxRecDepth 100000 in
set_option maxHeartbeats 8000000 in
theorem tables_Parse.calls (k : Nat) (a0 : ByteArray) (A0 : Option Addr) (c0 : Nat) (l0 : List Int) (r1 : List S34) (r2 : Int) (w : World) (hr0 : Kd.C (Kd.int .u8) w A0 l0.length l0) (hc0 : l0.length ≤ c0) (h : tables_Parse.f k a0 l0 = some (r1, r2)) :
    Calls Tryd.prog 17 #[.string a0, .slice A0 l0.length c0] w fun e w' => ∃ (A : Option Addr) (c : Nat), e = .returned (.tuple #[.slice A r1.length c, .int .i64 r2]) ∧ r1.length ≤ c ∧ Kd.C k34 w' A r1.length r1 ∧ Below w.heap.size w w' := by
  have hw := fun w' => tables_Width.calls a0 (widthOf a0) w' rfl
  have HW := Aside0.mk hw
  clear hw
  unfold tables_Parse.f at h
  refine (callsIn_wide (n := 3)).1 ?_
  refine callsIn_of_wp_marks Tryd.func17 rfl trivial ?_ rfl
  simp only [Tryd.ntmps17, List.size_toArray, List.length_cons, List.length_nil, Nat.reduceAdd, Nat.reduceSub, Array.replicate_succ, Array.replicate_zero, List.push_toArray, List.append_toArray, List.nil_append, List.cons_append]
  by_cases h0 : widthOf a0 = 0
  · rw [if_pos h0] at h
    simp only [Option.some.injEq, Prod.mk.injEq] at h
    obtain ⟨rfl, rfl⟩ := h
    have hb0 : (widthOf a0 == 0) = true := by rw [h0]; rfl
    gi_wp2_with (refine ⟨trivial, ?_⟩; gi_at_call 13; refine (callsIn_wide.2 (HW.out _)).mono ?_; rintro e w1 ⟨rfl, hb1⟩; obtain ⟨B0, B1, hbl, hsz⟩ := two_new hb1; have e0 := Boxed.cell B0; have e1 := Boxed.cell B1; have f0 := Boxed.frozen B0; have f1 := Boxed.frozen B1; have BB := Aside0.mk (And.intro B0 (And.intro B1 (And.intro hbl hsz))); clear B0 B1 hbl hb1)
    have z0 := (Boxed.set (.slice none 0 0) BB.out.1).other (B' := w.heap.size + 1) (by omega) (.int .i64 50)
    have z1 := (Boxed.other BB.out.2.1 (B' := w.heap.size) (by omega) (.slice none 0 0)).set (.int .i64 50)
    have c0' := z0.cell
    have c1' := z1.cell
    refine ⟨_, ?_, none, 0, rfl, Nat.le_refl _, c_nil _, ?_⟩
    · simp [results, Tryd.f17, go_sem, c0', c1']
    · exact (BB.out.2.2.1.setCell (p := ⟨w.heap.size, 0, none⟩) (Nat.le_refl _) _).setCell (p := ⟨w.heap.size + 1, 0, none⟩) (by simp) _
  rw [if_neg h0] at h
  by_cases hln : l0.length ≤ 1048576
  rotate_left
  · rw [if_neg hln] at h
    cases h
  rw [if_pos hln] at h
  have hb0 : (widthOf a0 == 0) = false := by rw [beq_eq_false_iff_ne]; exact h0
  have HR := Aside0.mk hr0
  have HC := Aside0.mk hc0
  have H := Aside0.mk h
  obtain ⟨len, hlen⟩ : ∃ n, l0.length = n := ⟨_, rfl⟩
  rw [hlen] at hln hc0 ⊢
  have HLN := Aside0.mk hlen
  clear hr0 h hlen
  gi_wp2_with (first | (refine ⟨trivial, ?_⟩; gi_at_call 13; refine (callsIn_wide.2 (HW.out _)).mono ?_; rintro e w1 ⟨rfl, hb1⟩; obtain ⟨B0, B1, hbl, hsz⟩ := two_new hb1; have e0 := Boxed.cell B0; have e1 := Boxed.cell B1; have f0 := Boxed.frozen B0; have f1 := Boxed.frozen B1; have BB := Aside0.mk (And.intro B0 (And.intro B1 (And.intro hbl hsz))); have s1 := Kd.C_string (P := Tryd.prog) (A := A0) (c := c0) Tryd.underlying25 Tryd.underlying5 Tryd.underlying9 (Kd.C_below HR.out (below_step hbl (below_alloc (Below.refl _ w1) (.cells #[.slice none 0 0] 22)))); rw [HLN.out] at s1; clear B0 B1 hbl hb1) | (refine ⟨trivial, ?_⟩; gi_at_call 36; refine (lines_calls _ _ _).mono ?_; rintro e w' ⟨rfl, rfl⟩))
  obtain ⟨W5, hW5⟩ : ∃ W5, ((w1.alloc (.cells #[.slice none 0 0] 22)).alloc (.cells #[.string (strOfNums l0)] 9)) = W5 := ⟨_, rfl⟩
  have hz5 : W5.heap.size = w1.heap.size + 2 := by rw [← hW5]; simp
  have x0 : Boxed W5 w.heap.size 22 (.slice none 0 0) := by rw [← hW5]; exact (BB.out.1.alloc _).alloc _
  have x1 : Boxed W5 (w.heap.size + 1) 26 (.int .i64 0) := by rw [← hW5]; exact (BB.out.2.1.alloc _).alloc _
  have x2 : Boxed W5 w1.heap.size 22 (.slice none 0 0) := by rw [← hW5]; exact (Boxed.new w1 _ _).alloc _
  have x3 : Boxed W5 (w1.heap.size + 1) 9 (.string (strOfNums l0)) := by
    rw [← hW5]
    have := Boxed.new (w1.alloc (.cells #[.slice none 0 0] 22)) 9 (.string (strOfNums l0))
    rwa [World.size_alloc] at this
  have xb : Below w.heap.size w W5 := by rw [← hW5]; exact below_step BB.out.2.2.1 (below_alloc (below_alloc (Below.refl _ _) _) _)
  have x4 : PSt w W5 k w1.heap.size (w1.heap.size + 1) (.slice none 0 0) [] := ⟨x0, x1, x2, xb, Nat.zero_le _, by omega, [], rfl, Kd.R_nil _ _ _ _ _⟩
  rw [hW5]
  clear hW5 x0 x1 x2 xb e0 e1 f0 f1 s1
  have hsz2 : (strOfNums l0).size ≤ 4611686018427387904 := by rw [strOfNums_size, HLN.out]; omega
  have hOwn : OwnFrom W5.heap.size (fun (pre : List ByteArray) W => ∃ v, PSt w W k w1.heap.size (w1.heap.size + 1) v pre) := PSt.own (by omega) (by omega)
  have hOwnX : ∀ c, OwnFrom W5.heap.size (fun (pre : List ByteArray) W => c = Code.ret ∧ PEnd w W pre) := PEnd.own (by omega)
  have hBx := PSt.box (w := w) (k := k) (b6 := w1.heap.size) (Bs := w1.heap.size + 1) (by omega) (by omega)
  have hBxX := PEnd.box (w := w) (Bs := w1.heap.size + 1) (by omega)
  refine wpIn_rangeFunc_box (α := ByteArray) rfl (by omega) (gf := 50) (lb := #[.pointer (some ⟨w1.heap.size + 1, 0, none⟩)]) ?hg trivial (enters_of Tryd.func50 (by kernel_rfl) rfl)
    (lines_box 2 (by omega) (w1.heap.size + 1) (strOfNums l0) hsz2 W5 x3) KpL.trans (KpL.put (by omega)) (Below.refl _ _) (fun _ => rfl)
    (fun pre W => ∃ v, PSt w W k w1.heap.size (w1.heap.size + 1) v pre) (fun c pre W => c = .ret ∧ PEnd w W pre) hOwn hOwnX hBx hBxX ⟨_, x4⟩
    (fun x => { tmps := #[.string a0, .slice A0 len c0, undef, undef, .pointer (some ⟨w.heap.size, 0, none⟩), .pointer (some ⟨w.heap.size + 1, 0, none⟩), .pointer (some ⟨w1.heap.size, 0, none⟩), .string x, undef, undef, undef, .string a0, .int .i64 (widthOf a0), .bool false, .slice A0 len c0, .string (strOfNums l0), .func (.func 50) #[] #[.pointer (some ⟨w1.heap.size + 1, 0, none⟩)], .string x, undef, undef, undef, undef, undef, undef, undef, undef, undef, undef, undef, undef, undef, undef, undef, undef, undef, undef, undef, undef, undef, undef, undef, undef, undef, undef, undef, undef, undef, undef, undef, undef], defers := [] }) ?assign ?body ?done ?stop
  case hg => first | rfl | (simp; done) | trace_state
  case assign =>
    intro l x W K hK
    gi_wp2
    exact hK
  case body =>
    rintro l pre x W ⟨v, hS⟩ ⟨suf, hsuf⟩
    rw [hz5]
    clear hOwn hOwnX hBx hBxX x3 x4 hsz2
    obtain ⟨rs, hrs, hrow⟩ := hS.row
    have hrl := rowsOf_len k pre hrs
    obtain ⟨A4, c4, hv⟩ := Kd.R_slice hrow
    rw [hrl] at hv
    have k2 := hS.b2.cell
    have S := Aside0.mk hS
    have ROW := Aside0.mk hrow
    have RS := Aside0.mk hrs
    have RL := Aside0.mk hrl
    have k0 := hS.b0.cell
    have k1 := hS.b1.cell
    have f0 := hS.b0.frozen
    have f1 := hS.b1.frozen
    have hbel5 : w1.heap.size + 2 ≤ W.heap.size := hS.sz
    clear hz5
    rw [hv] at k2
    have EE := Aside0.mk (fun hbad : 32 < pre.length => (⟨(hS.b0.set _).other (by omega) _, (hS.b1.other (by omega) _).set _, (hS.bel.setCell (p := ⟨w.heap.size, 0, none⟩) (Nat.le_refl _) _).setCell (p := ⟨w.heap.size + 1, 0, none⟩) (by simp) _, by simp; omega⟩ :
      PEnd w ((W.setCell ⟨w.heap.size, 0, none⟩ (.slice none 0 0)).setCell ⟨w.heap.size + 1, 0, none⟩ (.int .i64 51)) (pre ++ [x])))
    have KK := Aside0.mk (((KeepsOthers.setCell W ⟨w.heap.size, 0, none⟩ (.slice none 0 0)).trans (KeepsOthers.setCell _ ⟨w.heap.size + 1, 0, none⟩ (.int .i64 51))).from (w1.heap.size + 2))
    by_cases hful : 32 < pre.length
    · have hfi : (32 : Int) < (pre.length : Int) := by omega
      have EB := Aside0.mk (EE.out hful)
      clear hS EE hrow hrs hrl S ROW
      gi_wp2
      exact ⟨KK.out, rfl, EB.out⟩
    · have hfi : ¬ (32 : Int) < (pre.length : Int) := by omega
      obtain ⟨r, hr⟩ : ∃ r, rowOf k x = some r := by
        obtain ⟨q, hq, _⟩ := Option.bind_eq_some_iff.1 H.out
        rw [hsuf, List.append_assoc, List.take_append, List.take_of_length_le (by omega)] at hq
        obtain ⟨n, hn⟩ : ∃ n, 33 - pre.length = n + 1 := ⟨32 - pre.length, by omega⟩
        rw [hn, List.singleton_append, List.take_succ_cons] at hq
        exact rowsOf_at k pre _ x hq
      have hsn := rowsOf_snoc k pre x hrs hr
      unfold rowOf at hr
      obtain ⟨t, ht, hr⟩ := Option.bind_eq_some_iff.1 hr
      obtain ⟨ws, hws, hr⟩ := Option.bind_eq_some_iff.1 hr
      cases ws with
      | nil => cases hr
      | cons key cells =>
        simp only at hr
        by_cases hcl : cells.length ≤ 1048576
        rotate_left
        · rw [if_neg hcl] at hr
          cases hr
        rw [if_pos hcl] at hr
        cases hr
        have HT := Aside0.mk ht
        have HW2 := Aside0.mk hws
        have SN := Aside0.mk hsn
        clear hS EE hrow hrs hrl KK ht hws hsn k0 k1 f0 f1
        gi_wp2_with (first | (refine ⟨trivial, ?_⟩; gi_at_call 38; refine (callsIn_wide.2 (strings_TrimSuffix.calls _ _ _ _ HT.out)).mono ?_; rintro e w2 ⟨rfl, nd, rfl⟩) | (refine ⟨trivial, ?_⟩; gi_at_call 37; refine (callsIn_wide.2 (strings_Split.calls k _ _ _ _ HW2.out)).mono ?_; rintro e w3 ⟨v8, rfl, hR8, hb8⟩))
        obtain ⟨g8, c8, o8, rfl, hk8, hcut, hcs⟩ := split_parts hR8
        have hb8' : Below W.heap.size W w3 := below_step (w := W) (below_drewN (Below.refl W.heap.size W) nd) hb8
        have k2' := (hb8'.cell (World.block_lt_of_cell? W _ k2)).trans k2
        have CS := Aside0.mk hcs
        clear hR8 hb8
        have HB8 := Aside0.mk hb8'
        clear hb8' k2 hr hcs
        refine wpIn_region_any_round2 (by kernel_rfl) (by kernel_rfl) ?_
        refine any_growU 9 (fun a b => Below a.heap.size a b) (fun | 6 => some (fun v w' => Kd.string.R 9 w' w.heap.size (fun k => w3.heap.size ≤ k) v cells) | 7 => some (fun v w' => ∃ vv, v = .agg #[.string key, vv] ∧ Kd.string.R 9 w' w.heap.size (fun k => w3.heap.size ≤ k) vv cells) | 8 => some (fun v w' => ∃ b vv, v = .slice (some ⟨b, 0, none⟩) 1 1 ∧ w'.heap[b]? = some (.cells #[.string key, vv] 34 (0, 0)) ∧ Kd.string.R 9 w' w.heap.size (fun k => w3.heap.size ≤ k) vv cells) | _ => none) (by kernel_rfl) (by kernel_rfl) (by kernel_rfl) (by kernel_rfl) (fun _ => Below.refl _ _) (fun _ _ _ => below_step) ?_ ?_
        · intro i V hV v w1 w2 hr hv
          split at hV
          · cases hV
            exact Kd.R_below hv hr
          · cases hV
            obtain ⟨vv, h1, h3⟩ := hv
            exact ⟨vv, h1, Kd.R_below h3 hr⟩
          · cases hV
            obtain ⟨b, vv, h1, h2, h3⟩ := hv
            exact ⟨b, vv, h1, (hr.block b (Array.getElem?_eq_some_iff.1 h2).1).trans h2, Kd.R_below h3 hr⟩
          · cases hV
        simp only [List.zipIdx_cons, List.zipIdx_nil, Nat.zero_add, Nat.reduceAdd, List.take_succ_cons, List.take_zero, List.drop_succ_cons, List.drop_zero]
        iterate 6 (refine grow_read ?_ rfl (fun w' hr _ => ?_) ?_; rotate_left 1; (have g0 := (hr.cell (World.block_lt_of_cell? w3.drew _ hk8)).trans hk8; have g1 := (hr.cell (World.block_lt_of_cell? w3.drew _ k2')).trans k2'; unfold Runs; go_simp; rfl); try simp only [Act.put, List.setIfInBounds_toArray, List.set_cons_zero, List.set_cons_succ])
        refine grow_pred _ rfl (fun w' hr _ => ?_) (fun v6 => ?_)
        · have hcx := clone_any g8 o8 cells (c8 - 1) w' hcl (fun j hj => (hr.cell (World.block_lt_of_cell? w3.drew _ (CS.out j hj))).trans (CS.out j hj))
          unfold Gives gives
          go_simp
          refine hcx.mono ?_
          rintro e w'' ⟨v', rfl, hR, bel⟩
          have hz1 : w3.heap.size ≤ w'.heap.size := hr.size
          have hz2 := HB8.out.size
          have hz3 := S.out.bel.size
          exact ⟨_, rfl, bel, Kd.R_mono (Kd.R_lower hR (by omega)) (fun q hq => Nat.le_trans hz1 hq)⟩
        try simp only [Act.put, List.setIfInBounds_toArray, List.set_cons_zero, List.set_cons_succ]
        refine grow_pred _ rfl (fun w' hr hf => ?_) (fun v7 => ?_)
        · have h6 := hf 6 (by kernel_rfl)
          rw [upd_self] at h6
          obtain ⟨A6, c6, rfl⟩ := Kd.R_slice h6
          unfold Gives gives
          go_simp
          exact Below.refl _ _
        try simp only [Act.put, List.setIfInBounds_toArray, List.set_cons_zero, List.set_cons_succ]
        refine grow_pred _ rfl (fun w' hr hf => ?_) (fun v => ?_)
        · have h7 := hf 7 (by kernel_rfl)
          rw [upd_self] at h7
          obtain ⟨vv, rfl, h7⟩ := h7
          obtain ⟨A6, c6, rfl⟩ := Kd.R_slice h7
          unfold Gives gives
          go_simp
          exact ⟨below_alloc (Below.refl _ _) _, _, (Array.getElem?_eq_some_iff.1 (blk_new w' _)).2, Kd.R_below h7 (below_alloc (Below.refl _ _) _)⟩
        try simp only [Act.put, List.setIfInBounds_toArray, List.set_cons_zero, List.set_cons_succ]
        refine grow_end (fun wE hr hf => ?_)
        have hf8 := hf 8
        rw [upd_self] at hf8
        obtain ⟨b, vv, rfl, hb, hvv⟩ := hf8
        clear hf
        have hB3 : Below W.heap.size W wE := below_step HB8.out (below_step (below_drew1 (Below.refl _ _)) hr)
        have hrow : Kd.R k34 34 wE w.heap.size (fun q => q ≠ w1.heap.size + 1) v rs := Kd.R_below ROW.out hB3
        have hb2 : Boxed wE w1.heap.size 22 v := blk_below S.out.b2 hB3
        have hb0 : Boxed wE w.heap.size 22 (.slice none 0 0) := blk_below S.out.b0 hB3
        have hb1 : Boxed wE (w.heap.size + 1) 26 (.int .i64 0) := blk_below S.out.b1 hB3
        have hEs : w3.heap.size ≤ wE.heap.size := hr.size
        have hWs : W.heap.size ≤ w3.heap.size := HB8.out.size
        have hCx : ReadsRow (k34.M wE w.heap.size (fun q => w3.heap.size ≤ q)) k34.sz wE (some ⟨b, 0, none⟩) 1 [(⟨key, cells⟩ : S34)] := by
          refine ⟨rfl, by omega, fun _ => ⟨_, rfl, fun j p hj => ?_⟩⟩
          match j, hj with
          | 0, hj =>
            cases hj
            refine ⟨[.string key, vv], rfl, k34_mkM wE w.heap.size _ ⟨key, cells⟩ hvv, fun i u hu => ?_⟩
            match i, hu with
            | 0, hu => cases hu; simp [World.cell?, Addr.add, hb]
            | 1, hu => cases hu; simp [World.cell?, Addr.add, hb]
          | j + 1, hj => simp at hj
        rw [← hv] at k2'
        refine Kd.R_append_rows k34 (w0 := w) w.heap.size rfl (.tmp 24) (.tmp 32) 22 34 (.agg #[(.string ⟨#[]⟩), (.slice none 0 0)]) 40 rfl Tryd.underlying22 k34i rfl (by decide) (by decide) v rs [⟨key, cells⟩] (some ⟨b, 0, none⟩) 1 1 (fun q => q ≠ w1.heap.size + 1) (fun q => w3.heap.size ≤ q) hv.symm rfl hrow hCx (fun _ _ h => h) (fun q hq => ⟨by omega, fun he => by have := Kd.R_lt ROW.out q he.symm; omega⟩) (fun q hq => by omega) (below_step S.out.bel hB3) (by have := S.out.bel.size; omega) (by rw [RL.out]; omega) ?_
        intro v1 w4 ho1 hbl hg1 hat1
        have n2 : some w1.heap.size ≠ v.ownBlock := Kd.R_ne hrow hb2 (by decide)
        have q2 := hb2.kept hg1 n2
        have q0 := hb0.kept hg1 (Kd.R_ne hrow hb0 (by decide))
        have q1 := hb1.kept hg1 (Kd.R_ne hrow hb1 (by decide))
        have hkp : KpL (w1.heap.size + 1) W w4 := fun u hu => by
          have h3 : Boxed wE (w1.heap.size + 1) 9 u := blk_below hu hB3
          exact h3.kept hg1 (Kd.R_ne hrow h3 (by decide))
        have hkf : KeepsFrom (w1.heap.size + 2) W w4 := by
          refine ⟨Nat.le_trans hB3.size hg1.size, fun k o _ hk ho => ?_⟩
          have h3 := (hB3.block k (Array.getElem?_eq_some_iff.1 hk).1).trans hk
          refine (hg1.block k (Array.getElem?_eq_some_iff.1 h3).1 (fun e => ?_)).trans h3
          obtain ⟨cells, hc⟩ := own_typed (Kd.R_own hrow).choose_spec k e.symm
          rw [hc] at h3
          cases h3
          cases ho
        have hsz4 : w1.heap.size + 1 < w4.heap.size := Nat.lt_of_lt_of_le (by omega) hg1.size
        have hlb : w.heap.size ≤ w1.heap.size := by omega
        have hpl : (pre ++ [x]).length ≤ 33 := by rw [List.length_append, List.length_singleton]; omega
        have hfin : PSt w (w4.setCell ⟨w1.heap.size, 0, none⟩ v1) k w1.heap.size (w1.heap.size + 1) v1 (pre ++ [x]) :=
          ⟨q0.other (by omega) _, q1.other (by omega) _, q2.set _, hbl.setCell (p := ⟨w1.heap.size, 0, none⟩) hlb _, hpl, by rw [World.size_setCell]; exact hsz4, _, SN.out, Kd.R_set ho1 q2 k34_ne 0 _⟩
        have FIN := Aside0.mk hfin
        have KP := Aside0.mk hkp
        have KF := Aside0.mk hkf
        have p2 := q2.cell
        have pf2 := q2.frozen
        obtain ⟨A1, c1, hv1⟩ := Kd.R_slice ho1
        rw [List.length_append, List.length_singleton] at hv1
        subst hv1
        clear hfin hkp hkf q0 q1 ho1 hbl hg1 hat1 hrow hb2 hb0 hb1 hCx hB3 hr hb hcut HB8 CS S ROW RS RL k2' hk8 hvv hv hsz4 hpl hEs hWs
        go_wp2
        refine ⟨rfl, ?_⟩
        gi_wp2
        exact ⟨KF.out.trans ((KeepsOthers.setCell _ _ _).from _), fun u hu => (KP.out u hu).other (by omega) _, _, FIN.out⟩
  case done =>
    rintro D ys W hD rfl ⟨v, hS⟩ hK
    rw [hz5] at hD
    have S := Aside0.mk hS
    obtain ⟨rs, hrs, hrow⟩ := hS.row
    have h33 : (linesOf (strOfNums l0)).length ≤ 33 := hS.len
    have h := H.out
    rw [List.take_of_length_le h33, hrs, Option.bind_some, if_neg (by omega)] at h
    obtain ⟨p, hp, h⟩ := Option.bind_eq_some_iff.1 h
    obtain ⟨Ar, cr, hv, hcr, hCr⟩ := Kd.R_reads hrow
    have k2 := hS.b2.cell
    have hcl := tables_Print.calls k a0 Ar cr rs p.1 p.2 W hCr hcr hp
    obtain ⟨p1, p2⟩ := p
    rw [hv] at k2 hrow
    have P := Aside0.mk h
    have R := Aside0.mk hrow
    have HCR := Aside0.mk hcr
    have RSL : rs.length = rs.length := rfl
    have hD' : w.heap.size + 4 ≤ D := by omega
    clear hD hz5 hOwn hOwnX hBx hBxX x3 x4 hsz2 h hp hrow hcr hCr hS H hrs h33
    by_cases c1 : p2 = 0
    · by_cases c2 : (strOfNums p1).toList = (strOfNums l0).toList
      · have h := P.out
        rw [if_pos ⟨c1, c2⟩] at h
        simp only [Option.some.injEq, Prod.mk.injEq] at h
        obtain ⟨rfl, rfl⟩ := h
        obtain rfl : p2 = 0 := c1
        have c2b : ((strOfNums p1).toList == (strOfNums l0).toList) = true := by rw [c2]; exact beq_self_eq_true _
        have c2n : ((strOfNums p1).toList != (strOfNums l0).toList) = false := by rw [bne, c2b]; rfl
        clear P c2
        gi_wp2_with (refine ⟨trivial, ?_⟩; gi_at_call 10; refine (callsIn_wide.2 hcl).mono ?_; clear hcl; rintro e w2 ⟨Aw, cw, rfl, hcw, hCw, hbl0⟩; have s1 := Kd.C_string (P := Tryd.prog) (A := Aw) (c := cw) Tryd.underlying25 Tryd.underlying5 Tryd.underlying9 hCw; have s2 := Kd.C_string (P := Tryd.prog) (A := A0) (c := c0) Tryd.underlying25 Tryd.underlying5 Tryd.underlying9 (Kd.C_below HR.out (below_step S.out.bel hbl0)); obtain ⟨nw, hnw⟩ : ∃ n, p1.length = n := ⟨_, rfl⟩; rw [hnw] at s1 ⊢; rw [HLN.out] at s2; have B0 := blk_below S.out.b0 hbl0; have B1 := blk_below S.out.b1 hbl0; have B2 := blk_below S.out.b2 hbl0; have e0 := Boxed.cell B0; have e1 := Boxed.cell B1; have e2 := Boxed.cell B2; have f0 := Boxed.frozen B0; have f1 := Boxed.frozen B1; have BB := Aside0.mk (And.intro B0 (And.intro B1 B2)); have BL := Aside0.mk hbl0; clear B0 B1 B2 hbl0 hcw hCw hnw k2)
        have hK1 : w2.heap[D]? = some (.deferred (some [])) := blk_below hK BL.out
        have hK2 := (KeepsOthers.setCell _ ⟨w.heap.size + 1, 0, none⟩ (.int .i64 0)).same D _ ((KeepsOthers.setCell w2 ⟨w.heap.size, 0, none⟩ (.slice Ar rs.length cr)).same D _ hK1 rfl) rfl
        refine ⟨by simp, .inl ⟨_, _, rfl, run_takeDeferred hK2, ?_⟩⟩
        have z0 := (Boxed.set (.slice Ar rs.length cr) BB.out.1).other (B' := w.heap.size + 1) (by omega) (.int .i64 0)
        have z1 := (Boxed.other BB.out.2.1 (B' := w.heap.size) (by omega) (.slice Ar rs.length cr)).set (.int .i64 0)
        have c0' := cell_kept z0.cell (grownBy_putObj' _ D (.deferred none)) (fun r e => by cases e; exact ⟨_, hK2, rfl⟩)
        have c1' := cell_kept z1.cell (grownBy_putObj' _ D (.deferred none)) (fun r e => by cases e; exact ⟨_, hK2, rfl⟩)
        have hb2 := ((below_step S.out.bel BL.out).setCell (p := ⟨w.heap.size, 0, none⟩) (Nat.le_refl _) (.slice Ar rs.length cr)).setCell (p := ⟨w.heap.size + 1, 0, none⟩) (by simp) (.int .i64 0)
        have hRR := Kd.R_set (Kd.R_set (Kd.R_below R.out BL.out) BB.out.1 k34_ne 0 (.slice Ar rs.length cr)) (Boxed.other BB.out.2.1 (B' := w.heap.size) (by omega) (.slice Ar rs.length cr)) k34_ne' 0 (.int .i64 0)
        refine ⟨_, ?_, Ar, cr, rfl, HCR.out, row_put34 hRR hK2 rfl _, hb2.trans (belowK_b (w := w) (Nat.le_refl _) _ D _ _ (by omega) hK2 rfl rfl)⟩
        simp [results, Tryd.f17, go_sem, c0', c1']
      · have h := P.out
        rw [if_neg (fun e => c2 e.2)] at h
        simp only [Option.some.injEq, Prod.mk.injEq] at h
        obtain ⟨rfl, rfl⟩ := h
        obtain rfl : p2 = 0 := c1
        have c2b : ((strOfNums p1).toList == (strOfNums l0).toList) = false := by simpa using c2
        have c2n : ((strOfNums p1).toList != (strOfNums l0).toList) = true := by rw [bne, c2b]; rfl
        clear P c2
        gi_wp2_with (refine ⟨trivial, ?_⟩; gi_at_call 10; refine (callsIn_wide.2 hcl).mono ?_; clear hcl; rintro e w2 ⟨Aw, cw, rfl, hcw, hCw, hbl0⟩; have s1 := Kd.C_string (P := Tryd.prog) (A := Aw) (c := cw) Tryd.underlying25 Tryd.underlying5 Tryd.underlying9 hCw; have s2 := Kd.C_string (P := Tryd.prog) (A := A0) (c := c0) Tryd.underlying25 Tryd.underlying5 Tryd.underlying9 (Kd.C_below HR.out (below_step S.out.bel hbl0)); obtain ⟨nw, hnw⟩ : ∃ n, p1.length = n := ⟨_, rfl⟩; rw [hnw] at s1 ⊢; rw [HLN.out] at s2; have B0 := blk_below S.out.b0 hbl0; have B1 := blk_below S.out.b1 hbl0; have B2 := blk_below S.out.b2 hbl0; have e0 := Boxed.cell B0; have e1 := Boxed.cell B1; have e2 := Boxed.cell B2; have f0 := Boxed.frozen B0; have f1 := Boxed.frozen B1; have BB := Aside0.mk (And.intro B0 (And.intro B1 B2)); have BL := Aside0.mk hbl0; clear B0 B1 B2 hbl0 hcw hCw hnw k2)
        have hK1 : w2.heap[D]? = some (.deferred (some [])) := blk_below hK BL.out
        have hK2 := (KeepsOthers.setCell _ ⟨w.heap.size + 1, 0, none⟩ (.int .i64 51)).same D _ ((KeepsOthers.setCell w2 ⟨w.heap.size, 0, none⟩ (.slice none 0 0)).same D _ hK1 rfl) rfl
        refine ⟨by simp, .inl ⟨_, _, rfl, run_takeDeferred hK2, ?_⟩⟩
        have z0 := (Boxed.set (.slice none 0 0) BB.out.1).other (B' := w.heap.size + 1) (by omega) (.int .i64 51)
        have z1 := (Boxed.other BB.out.2.1 (B' := w.heap.size) (by omega) (.slice none 0 0)).set (.int .i64 51)
        have c0' := cell_kept z0.cell (grownBy_putObj' _ D (.deferred none)) (fun r e => by cases e; exact ⟨_, hK2, rfl⟩)
        have c1' := cell_kept z1.cell (grownBy_putObj' _ D (.deferred none)) (fun r e => by cases e; exact ⟨_, hK2, rfl⟩)
        have hb2 := ((below_step S.out.bel BL.out).setCell (p := ⟨w.heap.size, 0, none⟩) (Nat.le_refl _) (.slice none 0 0)).setCell (p := ⟨w.heap.size + 1, 0, none⟩) (by simp) (.int .i64 51)
        refine ⟨_, ?_, none, 0, rfl, Nat.le_refl _, c_nil _, hb2.trans (belowK_b (w := w) (Nat.le_refl _) _ D _ _ (by omega) hK2 rfl rfl)⟩
        simp [results, Tryd.f17, go_sem, c0', c1']
    · have h := P.out
      rw [if_neg (fun e => c1 e.1)] at h
      simp only [Option.some.injEq, Prod.mk.injEq] at h
      obtain ⟨rfl, rfl⟩ := h
      clear P
      gi_wp2_with (refine ⟨trivial, ?_⟩; gi_at_call 10; refine (callsIn_wide.2 hcl).mono ?_; clear hcl; rintro e w2 ⟨Aw, cw, rfl, hcw, hCw, hbl0⟩; have s1 := Kd.C_string (P := Tryd.prog) (A := Aw) (c := cw) Tryd.underlying25 Tryd.underlying5 Tryd.underlying9 hCw; have s2 := Kd.C_string (P := Tryd.prog) (A := A0) (c := c0) Tryd.underlying25 Tryd.underlying5 Tryd.underlying9 (Kd.C_below HR.out (below_step S.out.bel hbl0)); obtain ⟨nw, hnw⟩ : ∃ n, p1.length = n := ⟨_, rfl⟩; rw [hnw] at s1 ⊢; rw [HLN.out] at s2; have B0 := blk_below S.out.b0 hbl0; have B1 := blk_below S.out.b1 hbl0; have B2 := blk_below S.out.b2 hbl0; have e0 := Boxed.cell B0; have e1 := Boxed.cell B1; have e2 := Boxed.cell B2; have f0 := Boxed.frozen B0; have f1 := Boxed.frozen B1; have BB := Aside0.mk (And.intro B0 (And.intro B1 B2)); have BL := Aside0.mk hbl0; clear B0 B1 B2 hbl0 hcw hCw hnw k2)
      have hK1 : w2.heap[D]? = some (.deferred (some [])) := blk_below hK BL.out
      have hK2 := (KeepsOthers.setCell _ ⟨w.heap.size + 1, 0, none⟩ (.int .i64 51)).same D _ ((KeepsOthers.setCell w2 ⟨w.heap.size, 0, none⟩ (.slice none 0 0)).same D _ hK1 rfl) rfl
      refine ⟨by simp, .inl ⟨_, _, rfl, run_takeDeferred hK2, ?_⟩⟩
      have z0 := (Boxed.set (.slice none 0 0) BB.out.1).other (B' := w.heap.size + 1) (by omega) (.int .i64 51)
      have z1 := (Boxed.other BB.out.2.1 (B' := w.heap.size) (by omega) (.slice none 0 0)).set (.int .i64 51)
      have c0' := cell_kept z0.cell (grownBy_putObj' _ D (.deferred none)) (fun r e => by cases e; exact ⟨_, hK2, rfl⟩)
      have c1' := cell_kept z1.cell (grownBy_putObj' _ D (.deferred none)) (fun r e => by cases e; exact ⟨_, hK2, rfl⟩)
      have hb2 := ((below_step S.out.bel BL.out).setCell (p := ⟨w.heap.size, 0, none⟩) (Nat.le_refl _) (.slice none 0 0)).setCell (p := ⟨w.heap.size + 1, 0, none⟩) (by simp) (.int .i64 51)
      refine ⟨_, ?_, none, 0, rfl, Nat.le_refl _, c_nil _, hb2.trans (belowK_b (w := w) (Nat.le_refl _) _ D _ _ (by omega) hK2 rfl rfl)⟩
      simp [results, Tryd.f17, go_sem, c0', c1']
  case stop =>
    rintro D c pre W hD hpre ⟨rfl, hE⟩ hK
    rw [hz5] at hD
    have h := H.out
    obtain ⟨q, hq, h⟩ := Option.bind_eq_some_iff.1 h
    obtain ⟨suf, hsuf⟩ := hpre
    rw [if_pos (by rw [hsuf, List.length_append]; have := hE.bad; omega)] at h
    simp only [Option.some.injEq, Prod.mk.injEq] at h
    obtain ⟨rfl, rfl⟩ := h
    have hD' : w.heap.size + 4 ≤ D := by omega
    gi_wp2
    refine ⟨by simp, .inl ⟨_, _, rfl, run_takeDeferred hK, ?_⟩⟩
    have c0' := cell_kept hE.b0.cell (grownBy_putObj' _ D (.deferred none)) (fun r e => by cases e; exact ⟨_, hK, rfl⟩)
    have c1' := cell_kept hE.b1.cell (grownBy_putObj' _ D (.deferred none)) (fun r e => by cases e; exact ⟨_, hK, rfl⟩)
    refine ⟨_, ?_, none, 0, rfl, Nat.le_refl _, c_nil _, hE.bel.trans (belowK_b (w := w) (Nat.le_refl _) W D _ _ (by omega) hK rfl rfl)⟩
    simp [results, Tryd.f17, go_sem, c0', c1']
end Go.Proofs.YtiobdnnijbfdhaaDoor.PT
