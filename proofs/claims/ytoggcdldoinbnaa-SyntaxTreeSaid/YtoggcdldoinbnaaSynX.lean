/- The law's words, shown, and what the laws read: a tree in memory beside rows of numbers; what Parse answers. -/
import Derived.Test.YtoggcdldoinbnaaSyLex
import Derived.Test.YtoggcdldoinbnaaSynI
namespace Go.Proofs.Ytoggcdldoinbnaa

section
open Go.RowKit
open syn (Tok Nd PS)
open Go.Proofs.YtoggcdldoinbnaaW.PrintWords (bt)
set_option linter.unusedVariables false

def toTok (x : PL.S37) : Tok := (x.f0, x.f1)
theorem add_none (g n : Nat) : (⟨g, 0, none⟩ : Addr).add n = ⟨g, n, none⟩ := by
  unfold Addr.add
  split
  · rename_i h; rw [h]
  · simp
theorem below_only {w w' : World} (h : Below w.heap.size w w') : Only (fun _ => False) w w' := ⟨h.os, h.tape, h.output, h.size, fun k hk _ => h.block k hk⟩
theorem words_calls (s : ByteArray) {k : Nat} {r : List PL.S37} (h : PL.majordomolaw12_words.f k s = some r) (w : World) :
    Calls Try.prog 8 #[.string s] w fun e w' => ∃ A c, e = .returned (.slice A (r.map toTok).length c) ∧ WordsAt w'.heap.size w' A (r.map toTok) ∧ Only (fun _ => False) w w' := by
  refine (PL.majordomolaw12_words.calls k s r w h).mono ?_
  rintro e w' ⟨v, rfl, hv, hb⟩
  obtain ⟨inner, ho⟩ := Go.Proofs.YtoggcdldoinbnaaW.PrintWords.Kd.R_own hv
  obtain ⟨A, c, rfl, hc, hr⟩ := Go.Proofs.YtoggcdldoinbnaaW.PrintWords.Kd.R_reads hv
  refine ⟨A, c, by rw [List.length_map], ?_, below_only hb⟩
  intro i kd t hi
  rw [List.getElem?_map, Option.map_eq_some_iff] at hi
  obtain ⟨x, hx, he⟩ := hi
  injection he with h0 h1
  subst h0 h1
  have hl : i < r.length := by
    rcases Nat.lt_or_ge i r.length with h | h
    · exact h
    · rw [List.getElem?_eq_none h] at hx; cases hx
  obtain ⟨ad, hA, hcell⟩ := hr.2.2 (by omega)
  subst hA
  obtain ⟨cs, hcs, hK, hread⟩ := hcell i x hx
  obtain ⟨c0, c1, rfl, hc0, c2, c3, rfl, hc1, hc2⟩ := hK
  obtain rfl : c0 = [.int .i64 x.f0] := hc0
  obtain rfl : c2 = [.string x.f1] := hc1
  obtain rfl : c3 = [.int .i64 x.f2] := hc2
  obtain ⟨g, rfl, hg⟩ : ∃ g, ad = ⟨g, 0, none⟩ ∧ g < w'.heap.size := by
    have hown := Go.Proofs.YtoggcdldoinbnaaW.PrintWords.own_lt ho
    rcases ho.2 with ⟨e, _⟩ | ⟨g, cap, cur, e, _⟩
    · injection e with e1 e2 e3
      cases e1
    · injection e with e1 e2 e3
      injection e1 with e1
      subst e1
      exact ⟨g, rfl, hown g rfl⟩
  refine ⟨⟨g, 0, none⟩, x.f2, rfl, hg, hread 0 _ rfl, ?_, ?_⟩
  · have := hread 1 _ rfl
    rw [add_none] at this ⊢
    exact this
  · have := hread 2 _ rfl
    rw [add_none] at this ⊢
    exact this
end

section
open Go.RowKit
open syn (Tok Nd PS)
set_option linter.unusedVariables false
set_option linter.unusedSimpArgs false

def sh1 : ByteArray := ⟨#[36, 120, 32, 61, 32, 49, 32, 61, 61, 32, 50, 32, 111, 114, 32, 33, 116, 114, 117, 101]⟩
def sh2 : ByteArray := ⟨#[102, 105, 108, 101, 32, 123, 32, 39, 97, 39, 32, 125]⟩
def sh3 : ByteArray := ⟨#[105, 110, 99, 108, 117, 100, 101]⟩
def wl1 : List Tok := [(3, ⟨#[120]⟩), (7, ⟨#[61]⟩), (6, ⟨#[49]⟩), (7, ⟨#[61, 61]⟩), (6, ⟨#[50]⟩), (1, ⟨#[111, 114]⟩), (7, ⟨#[33]⟩), (1, ⟨#[116, 114, 117, 101]⟩)]
def wl2 : List Tok := [(1, ⟨#[102, 105, 108, 101]⟩), (7, ⟨#[123]⟩), (4, ⟨#[97]⟩), (7, ⟨#[125]⟩)]
def wl3 : List Tok := [(1, ⟨#[105, 110, 99, 108, 117, 100, 101]⟩)]
theorem sw1 : (PL.majordomolaw12_words.f 60 sh1).map (List.map toTok) = some wl1 := by decide +kernel
theorem sw2 : (PL.majordomolaw12_words.f 60 sh2).map (List.map toTok) = some wl2 := by decide +kernel
theorem sw3 : (PL.majordomolaw12_words.f 60 sh3).map (List.map toTok) = some wl3 := by decide +kernel
def ndT (nd : Nd) : Int × ByteArray × List Nat := (nd.kind, nd.text, nd.kids)
theorem sp1 : (syn.parse 9 9 wl1).1.map ndT = [(15, ⟨#[49]⟩, []), (15, ⟨#[50]⟩, []), (19, ⟨#[61, 61]⟩, [0, 1]), (17, ⟨#[]⟩, []), (20, ⟨#[]⟩, [3]), (19, ⟨#[111, 114]⟩, [2, 4]), (6, ⟨#[120]⟩, [5]), (1, ⟨#[]⟩, [6])] := by decide +kernel
theorem se1 : (syn.parse 9 9 wl1).2 = (0, 0) := by decide +kernel
theorem se2 : (syn.parse 9 9 wl2).2 = (3, 120) := by decide +kernel
theorem se3 : (syn.parse 9 9 wl3).2 = (1, 120) := by decide +kernel
theorem sp4 : (syn.parse 9 9 []).1.map ndT = [(1, ⟨#[]⟩, [])] := by decide +kernel
theorem se4 : (syn.parse 9 9 []).2 = (0, 0) := by decide +kernel
theorem words_const (s : ByteArray) {l : List Tok} (h : (PL.majordomolaw12_words.f 60 s).map (List.map toTok) = some l) (w : World) :
    Calls Try.prog 8 #[.string s] w fun e w' => ∃ A c, e = .returned (.slice A l.length c) ∧ WordsAt w'.heap.size w' A l ∧ Only (fun _ => False) w w' := by
  obtain ⟨r, hr, rfl⟩ := Option.map_eq_some_iff.1 h
  exact words_calls s hr w
theorem nodeVals_at : ∀ (n : List Nd) (vs : List Value), n.length = vs.length → ∀ (i : Nat) nd v, n[i]? = some nd → vs[i]? = some v → (nodeVals n vs)[i * 3]? = some (.int .i64 nd.kind) ∧ (nodeVals n vs)[i * 3 + 1]? = some (.string nd.text) ∧ (nodeVals n vs)[i * 3 + 2]? = some v
  | [], _, _, i, nd, v, hi, _ => by simp at hi
  | m :: n, [], h, i, nd, v, _, hv => by simp at hv
  | m :: n, u :: vs, h, 0, nd, v, hi, hv => by
    simp only [List.getElem?_cons_zero, Option.some.injEq] at hi hv
    subst hi hv
    exact ⟨rfl, rfl, rfl⟩
  | m :: n, u :: vs, h, i + 1, nd, v, hi, hv => by
    have := nodeVals_at n vs (by simpa using h) i nd v (by simpa using hi) (by simpa using hv)
    simp only [nodeVals]
    rw [show (i + 1) * 3 = i * 3 + 3 by omega, show i * 3 + 3 + 1 = (i * 3 + 1) + 3 by omega, show i * 3 + 3 + 2 = (i * 3 + 2) + 3 by omega]
    exact this
/-- A node of a tree in memory. -/
theorem TreeAt.slice {lo : Nat} {w : World} {nv : Value} {n : List Nd} (h : TreeAt lo w nv n) : ∃ A c, nv = .slice A n.length c := by
  obtain ⟨kv, dv, h1, h2, h3⟩ := h
  rcases h2.2 with ⟨rfl, e⟩ | ⟨g, cap, cur, rfl, _⟩
  · exact ⟨none, 0, by rw [e]⟩
  · exact ⟨_, _, rfl⟩
theorem TreeAt.form {lo : Nat} {w : World} {nv : Value} {n : List Nd} (h : TreeAt lo w nv n) (h0 : 0 < n.length) : ∃ g c, nv = .slice (some ⟨g, 0, none⟩) n.length c ∧ lo ≤ g ∧ g < w.heap.size ∧ ∀ (i : Nat) nd, n[i]? = some nd → w.cell? ⟨g, i * 3, none⟩ = some (.int .i64 nd.kind) ∧ w.cell? ⟨g, i * 3 + 1, none⟩ = some (.string nd.text) ∧ ∃ v dv, w.cell? ⟨g, i * 3 + 2, none⟩ = some v ∧ KidsOk (fun _ => False) lo w dv v nd.kids := by
  obtain ⟨kv, dv, h1, h2, h3⟩ := h
  have hlt := Go.Proofs.YtoggcdldoinbnaaW.PrintWords.own_lt h2
  rcases h2.2 with ⟨rfl, e⟩ | ⟨g, cap, cur, rfl, hb, hg, hc, _, hs, ht⟩
  · omega
  · refine ⟨g, cap, rfl, hb, hlt g rfl, fun i nd hi => ?_⟩
    have hn : kv[i]? = some (kv.getD i .nilFunc) := by
      have hl : i < kv.length := by
        rcases Nat.lt_or_ge i n.length with h | h
        · omega
        · rw [List.getElem?_eq_none h] at hi; cases hi
      rw [List.getD_eq_getElem?_getD, List.getElem?_eq_getElem hl]
      rfl
    have hv := nodeVals_at n kv h1 i nd _ hi hn
    have hs1 : ∀ (j : Nat) u, (nodeVals n kv)[j]? = some u → w.cell? ⟨g, j, none⟩ = some u := fun j u hj => by
      rw [cellOf hg, ← Array.getElem?_toList]
      rw [← ht, List.getElem?_take] at hj
      split at hj
      · exact hj
      · cases hj
    exact ⟨hs1 _ _ hv.1, hs1 _ _ hv.2.1, _, dv, hs1 _ _ hv.2.2, h3 i nd _ hi hn⟩
theorem TreeAt.stay {lo : Nat} {w w' : World} {nv : Value} {n : List Nd} (h : TreeAt lo w nv n) (o : Only (fun _ => False) w w') : TreeAt lo w' nv n := by
  obtain ⟨kv, dv, h1, h2, h3⟩ := h
  refine ⟨kv, dv, h1, own_keep h2 o (fun q e e2 => e2), fun i nd v hi hv => ?_⟩
  rcases h3 i nd v hi hv with h6 | ⟨g, cc, cur, e, h7, h8, h9, h10, h11⟩
  · exact .inl h6
  · exact .inr ⟨g, cc, cur, e, h7, o.keeps h8 (fun e2 => e2), h9, h10, h11⟩
theorem node_of {n : List Nd} {L : List (Int × ByteArray × List Nat)} (h : n.map ndT = L) {i : Nat} {x : Int × ByteArray × List Nat} (hx : L[i]? = some x) : ∃ nd, n[i]? = some nd ∧ nd.kind = x.1 ∧ nd.text = x.2.1 ∧ nd.kids = x.2.2 := by
  subst h
  rw [List.getElem?_map, Option.map_eq_some_iff] at hx
  obtain ⟨nd, h1, rfl⟩ := hx
  exact ⟨nd, h1, rfl, rfl, rfl⟩
theorem arena_new (w : World) (v : Value) (t : TypeId) : (w.alloc (.cells #[v] t)).cell? ⟨w.heap.size, 0, none⟩ = some v ∧ (w.alloc (.cells #[v] t)).frozen? ⟨w.heap.size, 0, none⟩ = false :=
  ⟨(cellOf (heap_alloc_new w _) 0).trans rfl, freeOf (heap_alloc_new w _) 0⟩
theorem words_nil (w : World) : WordsAt w.heap.size w none [] := fun i k t h => by simp at h
set_option maxRecDepth 20000 in
set_option maxHeartbeats 2000000 in
theorem shown_calls (w : World) : Calls Try.prog 6 #[] w fun e w' => e = .returned (.bool true) ∧ Only (fun _ => False) w w' := by
  go_enter Try.func6, Try.ntmps6
  go_wp2_with fail
  refine (words_const sh1 sw1 _).mono ?_
  rintro e w1 ⟨A1, c1, rfl, hw1, o1⟩
  go_wp2_with fail
  refine (parse_calls (K := 9) (by decide) hw1 rfl (by decide)).mono ?_
  rintro e w2 ⟨nv1, rfl, ht1, o2⟩
  obtain ⟨N1, d1, rfl⟩ := ht1.slice
  rw [se1]
  obtain ⟨hc2, hz2⟩ := arena_new w2 (.slice none 0 0) 25
  go_wp2_with fail
  refine (words_const sh2 sw2 _).mono ?_
  rintro e w3 ⟨A2, c2, rfl, hw2, o3⟩
  go_wp2_with fail
  refine (parse_calls (K := 9) (by decide) hw2 rfl (by decide)).mono ?_
  rintro e w4 ⟨nv2, rfl, ht2, o4⟩
  obtain ⟨N2, d2, rfl⟩ := ht2.slice
  rw [se2]
  obtain ⟨hc4, hz4⟩ := arena_new w4 (.slice none 0 0) 25
  go_wp2_with fail
  refine (words_const sh3 sw3 _).mono ?_
  rintro e w5 ⟨A3, c3, rfl, hw3, o5⟩
  go_wp2_with fail
  refine (parse_calls (K := 9) (by decide) hw3 rfl (by decide)).mono ?_
  rintro e w6 ⟨nv3, rfl, ht3, o6⟩
  obtain ⟨N3, d3, rfl⟩ := ht3.slice
  rw [se3]
  obtain ⟨hc6, hz6⟩ := arena_new w6 (.slice none 0 0) 25
  go_wp2_with fail
  refine (parse_calls (K := 9) (a := none) (l := []) (c := 0) (by decide) (words_nil _) rfl (by decide)).mono ?_
  rintro e w7 ⟨nv4, rfl, ht4, o7⟩
  obtain ⟨N4, d4, rfl⟩ := ht4.slice
  rw [se4]
  obtain ⟨hc7, hz7⟩ := arena_new w7 (.slice none 0 0) 25
  go_upto_region 5 with fail
  have hl1 : (syn.parse 9 9 wl1).1.length = 8 := by have := congrArg List.length sp1; simpa using this
  have hl4 : (syn.parse 9 9 []).1.length = 1 := by have := congrArg List.length sp4; simpa using this
  have bA := heap_alloc_new w2 (.cells #[Value.slice N1 (syn.parse 9 9 wl1).1.length d1] 25)
  have q7 := ((((o3.trans o4).alloc _).trans (o5.trans o6)).alloc _).trans o7
  have p2 := o1.trans o2
  have ht1' := ht1.stay (((Only.refl _ w2).alloc _).trans q7)
  have bA7 := q7.keeps bA (fun e => e)
  have oAll : Only (fun _ => False) w w7 := (p2.alloc _).trans q7
  clear o1 o2 o3 o4 o5 o6 o7 hc2 hc4 hc6 hz2 hz4 hz6 hw1 hw2 hw3 ht2 ht3 ht1 bA q7 p2 hc7 hz7
  simp only [hl1, hl4] at ht1' ht4 bA7 ⊢
  obtain ⟨wD, hwD⟩ : ∃ q, q = w7.alloc (Obj.cells #[Value.slice N4 1 d4] 25) := ⟨_, rfl⟩
  rw [← hwD]
  have oD : Only (fun _ => False) w7 wD := hwD ▸ (Only.refl _ w7).alloc _
  have cA : wD.cell? ⟨w2.heap.size, 0, none⟩ = some (Value.slice N1 8 d1) := (cellOf (oD.keeps bA7 (fun e => e)) 0).trans rfl
  have cD : wD.cell? ⟨w7.heap.size, 0, none⟩ = some (Value.slice N4 1 d4) := hwD ▸ (cellOf (heap_alloc_new w7 _) 0).trans rfl
  obtain ⟨g1, e1, c1, _, _, hn1⟩ := (ht1'.stay oD).form (by omega)
  obtain ⟨g4, e4, c4, _, _, hn4⟩ := (ht4.stay oD).form (by omega)
  injection c1 with c11 c12 c13
  injection c4 with c41 c42 c43
  subst c11 c41
  obtain ⟨x2, h2, k2, t2, _⟩ := node_of sp1 (i := 2) rfl
  obtain ⟨x6, h6, k6, t6, _⟩ := node_of sp1 (i := 6) rfl
  obtain ⟨x0, h0, k0, t0, _⟩ := node_of sp4 (i := 0) rfl
  have r2 := (hn1 2 x2 h2).1
  have r6 := (hn1 6 x6 h6).1
  have s6 := (hn1 6 x6 h6).2.1
  have r0 := (hn4 0 x0 h0).1
  rw [k2] at r2
  rw [k6] at r6
  rw [t6] at s6
  rw [k0] at r0
  have HO := Lib.hid (oAll.trans oD)
  clear hn1 hn4 h2 k2 t2 h6 k6 t6 h0 k0 t0 oD oAll bA7 ht1' ht4 c12 c42 c13 c43 hwD
  go_wp2_with fail
  exact ⟨rfl, _, by simp [results, Try.results6, go_sem], rfl, HO.out⟩
end

section
open Go.RowKit
open syn (Tok Nd PS Fo Tr Tabs)
open Go.Proofs.YtoggcdldoinbnaaW.PrintWords (blk_set blk_far blk_lt blk_cell blk_frozen)
set_option linter.unusedVariables false

/-- A row of numbers that fills its block. -/
def IRow (w : World) (g : Nat) (xs : List Nat) : Prop := w.heap[g]? = some (.cells (xs.map natV).toArray 3 (0, 0))
section
variable {w w' : World} {g : Nat} {xs : List Nat}
theorem IRow.cell (h : IRow w g xs) {i : Nat} (hi : i < xs.length) : w.cell? ⟨g, i, none⟩ = some (natV (xs.getD i 0)) := by
  rw [blk_cell h i, ← Array.getElem?_toList]
  simp [List.getElem?_map, List.getD_eq_getElem?_getD, List.getElem?_eq_getElem hi]
theorem IRow.free (h : IRow w g xs) (i : Nat) : w.frozen? ⟨g, i, none⟩ = false := blk_frozen h i
theorem IRow.set (h : IRow w g xs) (i v : Nat) : IRow (w.setCell ⟨g, i, none⟩ (natV v)) g (xs.set i v) := by
  unfold IRow
  rw [blk_set h i (natV v)]
  congr 2
  apply Array.toList_inj.1
  simp
theorem IRow.far (h : IRow w g xs) {p : Addr} (hp : g ≠ p.block) (u : Value) : IRow (w.setCell p u) g xs := blk_far h hp u
theorem IRow.keep {S : Nat → Prop} (h : IRow w g xs) (o : Only S w w') (hs : ¬ S g) : IRow w' g xs := o.keeps h hs
end
/-- A node's children, to be read. -/
def KidsAt (B : Nat) (w : World) (v : Value) (kids : List Nat) : Prop := ∃ A c, v = .slice A kids.length c ∧ ∀ k, k < kids.length → ∃ g, A = some ⟨g, 0, none⟩ ∧ g < B ∧ w.cell? ⟨g, k, none⟩ = some (natV (kids.getD k 0))
theorem KidsOk.at {F : Nat → Prop} {lo : Nat} {w : World} {dv v : Value} {kids : List Nat} (h : KidsOk F lo w dv v kids) : KidsAt w.heap.size w v kids := by
  rcases h with ⟨rfl, x, c, rfl⟩ | ⟨g, c, cur, rfl, h1, h2, h3, h4, h5⟩
  · exact ⟨x, c, rfl, fun k hk => by simp at hk⟩
  · refine ⟨_, c, rfl, fun k hk => ⟨g, rfl, lt_of_heap h2, ?_⟩⟩
    rw [cellOf h2]
    have := h3 k _ (List.getElem?_eq_getElem hk)
    rw [this, List.getD_eq_getElem?_getD, List.getElem?_eq_getElem hk]
    rfl
theorem KidsAt.keep {B : Nat} {w w' : World} {S : Nat → Prop} {v : Value} {kids : List Nat} (h : KidsAt B w v kids) (hB : B ≤ w.heap.size) (o : Only S w w') (hs : ∀ q, q < B → ¬ S q) : KidsAt B w' v kids := by
  obtain ⟨A, c, e, h1⟩ := h
  refine ⟨A, c, e, fun k hk => ?_⟩
  obtain ⟨g, e2, h2, h3⟩ := h1 k hk
  exact ⟨g, e2, h2, (o.cell (p := ⟨g, k, none⟩) (by show g < _; omega) (hs g h2)).trans h3⟩
/-- A tree, to be read: its nodes lie in blocks below B. -/
def Reads (B : Nat) (w : World) (nv : Value) (n : List Nd) : Prop := ∃ A c, nv = .slice A n.length c ∧ (∀ i nd, n[i]? = some nd → ∃ g, A = some ⟨g, 0, none⟩ ∧ g < B ∧ w.cell? ⟨g, i * 3, none⟩ = some (.int .i64 nd.kind) ∧ w.cell? ⟨g, i * 3 + 1, none⟩ = some (.string nd.text) ∧ ∃ v, w.cell? ⟨g, i * 3 + 2, none⟩ = some v ∧ KidsAt B w v nd.kids)
theorem TreeAt.reads {lo : Nat} {w : World} {nv : Value} {n : List Nd} (h : TreeAt lo w nv n) : Reads w.heap.size w nv n := by
  by_cases h0 : 0 < n.length
  · obtain ⟨g, c, e, h1, h2, h3⟩ := h.form h0
    refine ⟨_, c, e, fun i nd hi => ⟨g, rfl, h2, ?_⟩⟩
    obtain ⟨k1, k2, v, dv, k3, k4⟩ := h3 i nd hi
    exact ⟨k1, k2, v, k3, k4.at⟩
  · obtain ⟨A, c, e⟩ := h.slice
    refine ⟨A, c, e, fun i nd hi => ?_⟩
    have : n = [] := List.length_eq_zero_iff.1 (by omega)
    subst this
    simp at hi
theorem Reads.keep {B : Nat} {w w' : World} {S : Nat → Prop} {nv : Value} {n : List Nd} (h : Reads B w nv n) (hB : B ≤ w.heap.size) (o : Only S w w') (hs : ∀ q, q < B → ¬ S q) : Reads B w' nv n := by
  obtain ⟨A, c, e, h1⟩ := h
  refine ⟨A, c, e, fun i nd hi => ?_⟩
  obtain ⟨g, e2, h2, k1, k2, v, k3, k4⟩ := h1 i nd hi
  refine ⟨g, e2, h2, (o.cell (p := ⟨g, i * 3, none⟩) (by show g < _; omega) (hs g h2)).trans k1, (o.cell (p := ⟨g, i * 3 + 1, none⟩) (by show g < _; omega) (hs g h2)).trans k2, v, (o.cell (p := ⟨g, i * 3 + 2, none⟩) (by show g < _; omega) (hs g h2)).trans k3, k4.keep hB o hs⟩

theorem Reads.form {B : Nat} {w : World} {nv : Value} {n : List Nd} (h : Reads B w nv n) {i : Nat} {nd : Nd} (hi : n[i]? = some nd) : ∃ g c, nv = .slice (some ⟨g, 0, none⟩) n.length c ∧ g < B := by
  obtain ⟨A, c, e, h1⟩ := h
  obtain ⟨g, rfl, h2, -⟩ := h1 i nd hi
  exact ⟨g, c, e, h2⟩
theorem Reads.node {B : Nat} {w : World} {g k d : Nat} {n : List Nd} (h : Reads B w (.slice (some ⟨g, 0, none⟩) k d) n) {i : Nat} {nd : Nd} (hi : n[i]? = some nd) : w.cell? ⟨g, i * 3, none⟩ = some (.int .i64 nd.kind) ∧ w.cell? ⟨g, i * 3 + 1, none⟩ = some (.string nd.text) ∧ ∃ A c, w.cell? ⟨g, i * 3 + 2, none⟩ = some (.slice A nd.kids.length c) ∧ ∀ j, j < nd.kids.length → ∃ g2, A = some ⟨g2, 0, none⟩ ∧ g2 < B ∧ w.cell? ⟨g2, j, none⟩ = some (natV (nd.kids.getD j 0)) := by
  obtain ⟨A, c, e, h1⟩ := h
  obtain ⟨g', rfl, h2, k1, k2, v, k3, A2, c2, rfl, h3⟩ := h1 i nd hi
  injection e with e1 e2 e3
  injection e1 with e1
  injection e1 with e1
  subst e1
  exact ⟨k1, k2, A2, c2, k3, h3⟩
/-- What Parse answers. -/
theorem parse_out (K : Nat) (l : List Tok) : (∃ p e, syn.parse K K l = ([], p, e) ∧ (e = 5 ∨ e = 120)) ∨ ∃ x s, l.length ≤ 4096 ∧ syn.all K K l syn.start = .ok x s ∧ syn.parse K K l = (s.n, 0, 0) ∧ s.n.length ≤ 1024 := by
  unfold syn.parse
  split
  · exact .inl ⟨0, 5, rfl, .inl rfl⟩
  · cases h : syn.all K K l syn.start with
    | bad a => exact .inl ⟨a, 120, rfl, .inr rfl⟩
    | ok x s =>
      simp only
      split
      · exact .inl ⟨0, 5, rfl, .inl rfl⟩
      · exact .inr ⟨x, s, by omega, rfl, rfl, by omega⟩
theorem all_last {K F : Nat} {l : List Tok} {x : Nat} {s : PS} (h : syn.all K F l syn.start = .ok x s) : ∃ m L, s.n = m ++ [⟨1, (⟨#[]⟩ : ByteArray), L⟩] := by
  unfold syn.all syn.Pr.bind syn.node at h
  split at h
  · cases h
    exact ⟨_, _, rfl⟩
  · cases h
theorem words_of (s : ByteArray) (w : World) : ∃ l : List Tok, l.length ≤ 65536 ∧ ∀ w : World, Calls Try.prog 8 #[.string s] w fun e w' => ∃ A c, e = .returned (.slice A l.length c) ∧ WordsAt w'.heap.size w' A l ∧ Only (fun _ => False) w w' := by
  obtain ⟨r, hr, he⟩ := PL.words_ends s
  obtain ⟨k, hk⟩ := he.rounds
  exact ⟨r.map toTok, by simpa using hr, fun w => words_calls s hk w⟩
end
end Go.Proofs.Ytoggcdldoinbnaa
