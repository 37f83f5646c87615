/- Rows of words: read, cut, put behind one another; arguments; the fuel of a manifest's statements. -/
import Derived.Test.YtoggcdldoinbnaaRows
import Derived.Test.YtoggcdldoinbnaaSynX
import Derived.Test.YtoggcdldoinbnaaSynW
import Derived.Test.YtoggcdldoinbnaaStructs
import Derived.OpenShut
import Derived.Carry
import Derived.ChangeArms
namespace Go.Proofs.Ytoggcdldoinbnaa
open Go.ChangeShapes Go.WideShapes Go.RowKit
open syn (Tok Nd PS)
set_option linter.unusedVariables false

/-! ### fuel -/
theorem gather_fuel (K : Nat) (l : List Tok) : ∀ (F : Nat) (s : PS) (acc : List Nat), s.at_ ≤ l.length → l.length - s.at_ < F → syn.gatherGo K (F + 1) acc l s = syn.gatherGo K F acc l s := by
  intro F
  induction F with
  | zero => intro s acc h1 h2; omega
  | succ F ih =>
    intro s acc h1 h2
    rw [syn.gatherGo, syn.gatherGo]
    unfold syn.Pr.bind syn.atEnd
    by_cases he : l.length ≤ s.at_
    · simp [he]
    · simp only [he, decide_false, Bool.false_eq_true, if_false]
      cases e : syn.statement K K l s with
      | bad a => rfl
      | ok x s' =>
        have h3 := ((syn.One.statement K K).get e).2.1
        have h4 := (syn.Nice.statement K K).bound l s h1
        rw [e] at h4
        exact ih s' (acc ++ [x]) h4 (by omega)
theorem all_fuel (K F : Nat) (l : List Tok) (h : l.length < F) : syn.all K (F + 1) l syn.start = syn.all K F l syn.start := by
  unfold syn.all
  show syn.Pr.bind _ _ l syn.start = syn.Pr.bind _ _ l syn.start
  unfold syn.Pr.bind
  rw [gather_fuel K l F syn.start [] (Nat.zero_le _) (by simpa [syn.start] using h)]

/-- What Parse answers, in three. -/
theorem parse_three (K : Nat) (l : List Tok) : syn.parse K K l = ([], 0, 5) ∨ (∃ p, l.length ≤ 4096 ∧ syn.all K K l syn.start = .bad p ∧ syn.parse K K l = ([], p, 120)) ∨ ∃ x s, l.length ≤ 4096 ∧ syn.all K K l syn.start = .ok x s ∧ syn.parse K K l = (s.n, 0, 0) ∧ s.n.length ≤ 1024 := by
  unfold syn.parse
  split
  · exact .inl rfl
  · cases h : syn.all K K l syn.start with
    | bad a => exact .inr (.inl ⟨a, by omega, rfl, rfl⟩)
    | ok x s =>
      simp only
      split
      · exact .inl rfl
      · exact .inr (.inr ⟨x, s, by omega, rfl, rfl, by omega⟩)

/-! ### rows of words -/
abbrev W3 := Int × ByteArray × Int
def tok3 (x : W3) : Tok := (x.1, x.2.1)
def flat3 : List W3 → List Value
  | [] => []
  | x :: l => .int .i64 x.1 :: .string x.2.1 :: .int .i64 x.2.2 :: flat3 l
theorem flat3_length : ∀ l : List W3, (flat3 l).length = l.length * 3
  | [] => rfl
  | x :: l => by simp only [flat3, List.length_cons, flat3_length l]; omega
theorem flat3_append : ∀ l m : List W3, flat3 (l ++ m) = flat3 l ++ flat3 m
  | [], m => rfl
  | x :: l, m => by simp only [List.cons_append, flat3, flat3_append l m]
theorem flat3_one : ∀ (l : List W3) (u : Value), u ∈ flat3 l → u.oneCell' = true
  | [], u, h => by cases h
  | x :: l, u, h => by
    simp only [flat3, List.mem_cons] at h
    rcases h with rfl | rfl | rfl | h
    · rfl
    · rfl
    · rfl
    · exact flat3_one l u h
theorem flat3_at : ∀ (l : List W3) (i : Nat) x, l[i]? = some x → (flat3 l)[i * 3]? = some (.int .i64 x.1) ∧ (flat3 l)[i * 3 + 1]? = some (.string x.2.1) ∧ (flat3 l)[i * 3 + 2]? = some (.int .i64 x.2.2)
  | [], i, x, h => by simp at h
  | y :: l, 0, x, h => by
    simp only [List.getElem?_cons_zero, Option.some.injEq] at h
    subst h
    exact ⟨rfl, rfl, rfl⟩
  | y :: l, i + 1, x, h => by
    have := flat3_at l i x (by simpa using h)
    simp only [flat3]
    rw [show (i + 1) * 3 = i * 3 + 3 by omega, show i * 3 + 3 + 1 = (i * 3 + 1) + 3 by omega, show i * 3 + 3 + 2 = (i * 3 + 2) + 3 by omega]
    exact this
/-- A row of words that is read. -/
def WRow (B : Nat) (w : World) (A : Option Addr) (xs : List W3) : Prop := 0 < xs.length → ∃ ad, A = some ad ∧ ad.block < B ∧ ∀ j u, (flat3 xs)[j]? = some u → w.cell? (ad.add j) = some u
section
variable {B : Nat} {w w' : World} {A : Option Addr} {xs : List W3}
theorem add_mul3 (ad : Addr) (i : Nat) (r : Nat) : ad.add (i * 3 + (r + 1)) = ⟨(ad.add (i * 3)).block, (ad.add (i * 3)).off + (r + 1), none⟩ := by
  unfold Addr.add
  rw [if_neg (by omega)]
  split
  · rename_i h; simp only [h, Nat.zero_add]
  · simp; omega
theorem WRow.words (h : WRow B w A xs) : WordsAt B w A (xs.map tok3) := by
  intro i k t hi
  rw [List.getElem?_map, Option.map_eq_some_iff] at hi
  obtain ⟨x, hx, he⟩ := hi
  injection he with h0 h1
  subst h0 h1
  have hl : i < xs.length := by
    rcases Nat.lt_or_ge i xs.length with h | h
    · exact h
    · rw [List.getElem?_eq_none h] at hx; cases hx
  obtain ⟨ad, rfl, hb, hc⟩ := h (by omega)
  obtain ⟨c0, c1, c2⟩ := flat3_at xs i x hx
  refine ⟨ad, x.2.2, rfl, hb, hc _ _ c0, ?_, ?_⟩
  · have := hc _ _ c1
    rw [add_mul3 ad i 0] at this
    exact this
  · have := hc _ _ c2
    rw [add_mul3 ad i 1] at this
    exact this
theorem WRow.keep {S : Nat → Prop} (h : WRow B w A xs) (hB : B ≤ w.heap.size) (o : Only S w w') (hs : ∀ q, q < B → ¬ S q) : WRow B w' A xs := by
  intro h0
  obtain ⟨ad, e, hb, hc⟩ := h h0
  refine ⟨ad, e, hb, fun j u hj => ?_⟩
  exact (o.cell (p := ad.add j) (by rw [add_block]; omega) (by rw [add_block]; exact hs _ hb)).trans (hc j u hj)
theorem WRow.take (h : WRow B w A xs) (n : Nat) : WRow B w A (xs.take n) := by
  intro h0
  obtain ⟨ad, e, hb, hc⟩ := h (by simp at h0; omega)
  refine ⟨ad, e, hb, fun j u hj => hc j u ?_⟩
  have hx : flat3 xs = flat3 (xs.take n) ++ flat3 (xs.drop n) := by rw [← flat3_append, List.take_append_drop]
  rw [hx, List.getElem?_append_left]
  · exact hj
  · rcases Nat.lt_or_ge j (flat3 (xs.take n)).length with h | h
    · exact h
    · rw [List.getElem?_eq_none h] at hj; cases hj
theorem WRow.of_own {lo : Nat} {v : Value} (h : w.ownsRow lo 37 3 v xs.length (flat3 xs)) : ∃ A c, v = .slice A xs.length c ∧ WRow w.heap.size w A xs := by
  have hlt := Go.Proofs.YtoggcdldoinbnaaW.PrintWords.own_lt h
  rcases h.2 with ⟨rfl, e⟩ | ⟨g, cap, cur, rfl, hb, hg, rest⟩
  · exact ⟨none, 0, by rw [e], fun h0 => by omega⟩
  · exact ⟨_, cap, rfl, fun h0 => ⟨_, rfl, hlt g rfl, h.cells (g := g) rfl⟩⟩
end
theorem word_info : (Try.prog.info? 37).map (fun i => (i.zero, i.size, i.bytes)) = some (some (.agg #[.int .i64 0, .string (⟨#[]⟩ : ByteArray), .int .i64 0]), 3, 32) := by kernel_rfl
/-- append of words. -/
theorem append_words {lo : Nat} {w : World} {v : Value} {xs ys : List W3} {A : Option Addr} {c : Nat} (hown : w.ownsRow lo 37 3 v xs.length (flat3 xs)) {B : Nat} (hr : WRow B w A ys) (h0 : 0 < ys.length) (hl : xs.length + ys.length ≤ 70000) (hlo : lo ≤ w.heap.size) (ty : TypeId) :
    ∃ v' w', (Builtin.append_ #[29, 29] ty #[v, .slice A ys.length c]).run Try.prog w = .ok v' w' ∧ w'.ownsRow lo 37 3 v' (xs ++ ys).length (flat3 (xs ++ ys)) ∧ w.grownBy w' v.ownBlock := by
  obtain ⟨i, hi, hz, hs, hb⟩ := info_parts word_info
  obtain ⟨ad, rfl, _, hc⟩ := hr h0
  obtain ⟨v', w', h1, h2, h3, _⟩ := run_append_own (P := Try.prog) w lo 29 ty 37 i _ 3 32 Try.underlying29 hi hz hs hb rfl (by decide) v xs.length (flat3 xs) hown ad ys.length c (flat3 ys) (flat3_length ys) hc (flat3_one ys) (by unfold maxLen; omega) (by omega) hlo
  exact ⟨v', w', h1, by rw [flat3_append, List.length_append]; exact h2, h3⟩
theorem own_empty {lo : Nat} (w : World) (h : lo ≤ w.heap.size) : (w.alloc (.cells #[] 37)).ownsRow lo 37 3 (.slice (some ⟨w.heap.size, 0, none⟩) 0 0) ([] : List W3).length (flat3 []) :=
  ⟨rfl, .inr ⟨w.heap.size, 0, #[], rfl, h, heap_alloc_new w _, Nat.le_refl _, Nat.zero_le _, rfl, rfl⟩⟩
theorem append_words' {lo : Nat} {w : World} {v : Value} {xs ys : List W3} {A : Option Addr} {c : Nat} (hown : w.ownsRow lo 37 3 v xs.length (flat3 xs)) {B : Nat} (hr : WRow B w A ys) (h0 : 0 < ys.length ∨ 0 < xs.length) (hl : xs.length + ys.length ≤ 70000) (hlo : lo ≤ w.heap.size) (hc0 : A = none → c = 0) (ty : TypeId) :
    ∃ v' w', (Builtin.append_ #[29, 29] ty #[v, .slice A ys.length c]).run Try.prog w = .ok v' w' ∧ w'.ownsRow lo 37 3 v' (xs ++ ys).length (flat3 (xs ++ ys)) ∧ w.grownBy w' v.ownBlock := by
  by_cases hy : 0 < ys.length
  · exact append_words hown hr hy hl hlo ty
  · have hx : 0 < xs.length := by omega
    have hy0 : ys = [] := List.length_eq_zero_iff.1 (by omega)
    subst hy0
    obtain ⟨i, hi, hz, hs, hb⟩ := info_parts word_info
    cases A with
    | some ad =>
      obtain ⟨v', w', h1, h2, h3, _⟩ := run_append_own (P := Try.prog) w lo 29 ty 37 i _ 3 32 Try.underlying29 hi hz hs hb rfl (by decide) v xs.length (flat3 xs) hown ad 0 c [] rfl (fun j u h => by simp at h) (fun u h => by cases h) (by unfold maxLen; omega) (by omega) hlo
      exact ⟨v', w', h1, by rw [List.append_nil]; rw [List.append_nil] at h2; exact h2, h3⟩
    | none =>
      rw [hc0 rfl]
      rcases hown.2 with ⟨rfl, e⟩ | ⟨g, cap, cur, rfl, hb, hg, hnc, rest⟩
      · omega
      · exact ⟨_, _, run_append_nothing (P := Try.prog) w 29 ty 37 i Try.underlying29 hi g xs.length cap hnc, by rw [List.append_nil]; exact hown, World.grownBy.refl w _⟩
theorem wpList_words {w : World} {ops : Array Oper} {rest : List Oper} {o : Oper} {a : Act} {Q : Exit → Act → World → Prop} (hgd : o.guard = none) (s x : Operand)
    (ho : o.op = .call { callee := .builtin .append, args := #[s, x], argTypes := #[29, 29] })
    {lo : Nat} {v : Value} {xs ys : List W3} {A : Option Addr} {c : Nat} {m : Nat} (hm : m = ys.length) (hs : a.eval s = v) (hx : a.eval x = .slice A m c) (hown : w.ownsRow lo 37 3 v xs.length (flat3 xs)) {B : Nat} (hr : WRow B w A ys) (h0 : 0 < ys.length ∨ 0 < xs.length) (hl : xs.length + ys.length ≤ 70000) (hlo : lo ≤ w.heap.size) (hc0 : A = none → c = 0)
    (h : ∀ v' w', w'.ownsRow lo 37 3 v' (xs ++ ys).length (flat3 (xs ++ ys)) → w.grownBy w' v.ownBlock → wpList Try.prog ops Q rest (a.put o.dst v') w') : wpList Try.prog ops Q (o :: rest) a w := by
  subst hm
  refine wpList_plain hgd fun K hK => ?_
  obtain ⟨v', w', hr2, h2, h3⟩ := append_words' hown hr h0 hl hlo hc0 o.type
  unfold Oper.wp execOp
  simp only [ho, resolve, invoke, builtin, Sem.run_bind, Sem.run_pure, Result.andThen_ok, List.map_toArray, List.map_cons, List.map_nil, hs, hx, hr2]
  exact hK _ _ (h v' w' h2 h3)
theorem flat3_inv : ∀ (xs : List W3) (j : Nat) u, (flat3 xs)[j]? = some u → ∃ (i : Nat) (x : W3), xs[i]? = some x ∧ ((j = i * 3 ∧ u = .int .i64 x.1) ∨ (j = i * 3 + 1 ∧ u = .string x.2.1) ∨ (j = i * 3 + 2 ∧ u = .int .i64 x.2.2))
  | [], j, u, h => by simp [flat3] at h
  | x :: l, 0, u, h => ⟨0, x, rfl, .inl ⟨rfl, by simpa [flat3] using h.symm⟩⟩
  | x :: l, 1, u, h => ⟨0, x, rfl, .inr (.inl ⟨rfl, by simpa [flat3] using h.symm⟩)⟩
  | x :: l, 2, u, h => ⟨0, x, rfl, .inr (.inr ⟨rfl, by simpa [flat3] using h.symm⟩)⟩
  | x :: l, j + 3, u, h => by
    obtain ⟨i, y, h1, h2⟩ := flat3_inv l j u (by simpa [flat3] using h)
    exact ⟨i + 1, y, by simpa using h1, by
      rcases h2 with ⟨e, h2⟩ | ⟨e, h2⟩ | ⟨e, h2⟩
      · exact .inl ⟨by omega, h2⟩
      · exact .inr (.inl ⟨by omega, h2⟩)
      · exact .inr (.inr ⟨by omega, h2⟩)⟩
theorem WRow.mk {B : Nat} {w : World} {ad : Addr} {xs : List W3} (hb : ad.block < B) (h : ∀ (i : Nat) x, xs[i]? = some x → w.cell? (ad.add (i * 3)) = some (.int .i64 x.1) ∧ w.cell? (ad.add (i * 3 + 1)) = some (.string x.2.1) ∧ w.cell? (ad.add (i * 3 + 2)) = some (.int .i64 x.2.2)) : WRow B w (some ad) xs := by
  intro _
  refine ⟨ad, rfl, hb, fun j u hj => ?_⟩
  obtain ⟨i, x, h1, h2⟩ := flat3_inv xs j u hj
  obtain ⟨k0, k1, k2⟩ := h i x h1
  rcases h2 with ⟨rfl, rfl⟩ | ⟨rfl, rfl⟩ | ⟨rfl, rfl⟩
  · exact k0
  · exact k1
  · exact k2
def toW3 (x : PL.S37) : W3 := (x.f0, x.f1, x.f2)
theorem words_rows (s : ByteArray) : ∃ xs : List W3, xs.length ≤ 65536 ∧ ∀ w : World, Calls Try.prog 8 #[.string s] w fun e w' => ∃ A c, e = .returned (.slice A xs.length c) ∧ (A = none → c = 0) ∧ WRow w'.heap.size w' A xs ∧ Only (fun _ => False) w w' := by
  obtain ⟨r, hr, he⟩ := PL.words_ends s
  obtain ⟨k, hk⟩ := he.rounds
  refine ⟨r.map toW3, by simpa using hr, fun w => (PL.majordomolaw12_words.calls k s r w hk).mono ?_⟩
  rintro e w' ⟨v, rfl, hv, hb⟩
  obtain ⟨inner, ho⟩ := Go.Proofs.YtoggcdldoinbnaaW.PrintWords.Kd.R_own hv
  obtain ⟨A, c, rfl, hc, hr⟩ := Go.Proofs.YtoggcdldoinbnaaW.PrintWords.Kd.R_reads hv
  refine ⟨A, c, by rw [List.length_map], fun e => ?_, ?_, below_only hb⟩
  · subst e
    rcases ho.2 with ⟨e, _⟩ | ⟨g, cap, cur, e, _⟩
    · injection e
    · injection e with e1; cases e1
  intro h0
  rw [List.length_map] at h0
  obtain ⟨ad, rfl, hcell⟩ := hr.2.2 h0
  have hg : ad.block < w'.heap.size := by
    have hown := Go.Proofs.YtoggcdldoinbnaaW.PrintWords.own_lt ho
    rcases ho.2 with ⟨e, _⟩ | ⟨g, cap, cur, e, _⟩
    · injection e with e1 e2 e3
      cases e1
    · injection e with e1 e2 e3
      injection e1 with e1
      subst e1
      exact hown g rfl
  refine WRow.mk hg (fun i x hx => ?_) (by rw [List.length_map]; exact h0)
  rw [List.getElem?_map, Option.map_eq_some_iff] at hx
  obtain ⟨y, hy, rfl⟩ := hx
  obtain ⟨cs, hcs, hK, hread⟩ := hcell i y hy
  obtain ⟨c0, c1, rfl, hc0, c2, c3, rfl, hc1, hc2⟩ := hK
  obtain rfl : c0 = [.int .i64 y.f0] := hc0
  obtain rfl : c2 = [.string y.f1] := hc1
  obtain rfl : c3 = [.int .i64 y.f2] := hc2
  exact ⟨hread 0 _ rfl, hread 1 _ rfl, hread 2 _ rfl⟩

/-! ### arguments -/
theorem one_le {H : Type} (d : DataW H) : 1 ≤ Rows.uptoBulk d := by
  cases d with
  | lit l => cases l <;> simp [Rows.uptoBulk]
  | nil => simp [Rows.uptoBulk]
  | ptr d => simp [Rows.uptoBulk]
  | slice elems spare => simp [Rows.uptoBulk]
  | agg parts => simp [Rows.uptoBulk]
  | iface t d => simp [Rows.uptoBulk]
  | map entries => simp [Rows.uptoBulk]
  | held h => simp [Rows.uptoBulk]
theorem length_le {H : Type} (l : List (DataW H)) : l.length ≤ Rows.uptoBulkAll l := by
  induction l with
  | nil => simp [Rows.uptoBulkAll]
  | cons x r ih => have := one_le x; simp only [Rows.uptoBulkAll, List.length_cons]; omega
theorem rows_of {α : Type} {P : Nat → α → Prop} : ∀ n : Nat, (∀ i, i < n → ∃ x, P i x) → ∃ l : List α, l.length = n ∧ ∀ i x, l[i]? = some x → P i x := by
  intro n
  induction n with
  | zero => intro _; exact ⟨[], rfl, fun i x h => by simp at h⟩
  | succ n ih =>
    intro h
    obtain ⟨l, hl, hp⟩ := ih (fun i hi => h i (by omega))
    obtain ⟨x, hx⟩ := h n (by omega)
    refine ⟨l ++ [x], by rw [List.length_append, hl]; rfl, fun i y hy => ?_⟩
    by_cases hi : i < n
    · rw [List.getElem?_append_left (by omega)] at hy
      exact hp i y hy
    · rw [List.getElem?_append_right (by omega)] at hy
      have hi2 : i = n := by
        have := (List.getElem?_eq_some_iff.1 hy).1
        simp only [List.length_singleton] at this
        omega
      subst hi2
      rw [hl, Nat.sub_self] at hy
      simp only [List.getElem?_cons_zero, Option.some.injEq] at hy
      subst hy
      exact hx
theorem words_of_arg {H : Type} {enc : TypeId × Value → H} {w : World} {fuel : Nat} {c : Value} {y : DataW H × List MemPlace}
    (h : DataW.trod enc Try.prog w 0 (fun _ => true) true fuel 29 [c] = some y) :
    ∃ (A : Option Addr) (l : List W3) (cap : Nat), c = .slice A l.length cap ∧ (A = none → cap = 0) ∧ l.length ≤ cap ∧ WRow w.heap.size w A l ∧ l.length ≤ 9223372036854775807 ∧ l.length ≤ Rows.uptoBulk y.1 := by
  rcases open_slice_fields Try.underlying29 Try.underlying37 (by kernel_rfl) (by kernel_rfl) h with ⟨hcs, hx⟩ | ⟨ad, len, cap, m, D, Pl, hcs, _, hl, hm, hmm, hx, hi⟩
  · simp only [List.cons.injEq, and_true] at hcs
    exact ⟨none, [], 0, hcs, fun _ => rfl, Nat.le_refl _, fun h0 => absurd h0 (by decide), by simp, Nat.zero_le _⟩
  · simp only [List.cons.injEq, and_true] at hcs
    have hmm : m = cap := by simpa using hmm
    unfold maxLen at hm
    obtain ⟨l, hlen, hp⟩ := rows_of (P := fun i (x : W3) => w.cell? (ad.add (i * 3)) = some (.int .i64 x.1) ∧ w.cell? (ad.add (i * 3 + 1)) = some (.string x.2.1) ∧ w.cell? (ad.add (i * 3 + 2)) = some (.int .i64 x.2.2)) len (fun i hil => by
      obtain ⟨ys, n, hD, _, _, hf⟩ := hi i (by omega)
      obtain ⟨v0, y0, h0, _, t0⟩ := hf 0 _ rfl
      obtain ⟨v1, y1, h1, _, t1⟩ := hf 1 _ rfl
      obtain ⟨v2, y2, h2, _, t2⟩ := hf 2 _ rfl
      obtain ⟨n0, e0, _, _⟩ := DataW.trod_int Try.underlying3 t0
      obtain ⟨s1, e1, _⟩ := DataW.trod_string Try.underlying9 t1
      obtain ⟨n2, e2, _, _⟩ := DataW.trod_int Try.underlying3 t2
      simp only [List.cons.injEq, and_true] at e0 e1 e2
      subst e0; subst e1; subst e2
      exact ⟨(n0, s1, n2), h0, h1, h2⟩)
    refine ⟨some ad, l, cap, by rw [hlen]; exact hcs, (fun e => by cases e), by omega, fun h0 => ?_, by omega, ?_⟩
    · have hx0 := (hp 0 _ (List.getElem?_eq_getElem h0)).1
      have hb : ad.block < w.heap.size := by
        have := block_lt_of_cell hx0
        simpa [add_block] using this
      exact WRow.mk hb hp h0
    · rw [hx, hlen]
      have h1 := length_le ((List.range len).map D)
      rw [List.length_map, List.length_range] at h1
      exact Nat.le_trans h1 (by simp only [Rows.uptoBulk]; exact Nat.le_trans (Nat.le_add_right _ _) (Nat.le_succ _))
set_option maxRecDepth 100000 in
theorem words_open {H : Type} {enc : TypeId × Value → H} {w : World} {r : Reach} {base : Nat} {v : Value} {d : DataW H} {p : List MemPlace}
    (hval : Value.okWide Try.prog w r base 29 v) (h : DataW.Trod enc Try.prog w 0 (fun _ => true) true 29 v d p) :
    ∃ (A : Option Addr) (l : List W3) (c : Nat), v = .slice A l.length c ∧ (A = none → c = 0) ∧ l.length ≤ c ∧ WRow w.heap.size w A l ∧ l.length ≤ 9223372036854775807 ∧ l.length ≤ Rows.uptoBulk d := by
  obtain ⟨a, len, cap, rfl⟩ := okWide_slice Try.underlying29 hval
  obtain ⟨fuel, h⟩ := h
  obtain ⟨A, l, c, h1, h6, h2, h3, h4, h5⟩ := words_of_arg (show DataW.trod enc Try.prog w 0 (fun _ => true) true fuel 29 [.slice a len cap] = some (d, p) from h)
  exact ⟨A, l, c, h1, h6, h2, h3, h4, h5⟩
end Go.Proofs.Ytoggcdldoinbnaa
