/- JournalSteps' words: rows of puts, and a disk that is cloned for each try. -/
import Derived.Test.YtpmlmjbhgonegaaJCrash
namespace Go.Proofs.Ytpmlmjbhgonegaa
open Go.RowKit
set_option linter.unusedVariables false

/-- append to a slice of one's own: it stays where it was, or lies in a new block. -/
theorem wpList_append_here {P : Program} {w : World} {ops : Array Oper} {rest : List Oper} {o : Oper} {a : Act} {Q : Exit → Act → World → Prop} (hgd : o.guard = none) (s x : Operand) (t : TypeId)
    (ho : o.op = .call { callee := .builtin .append, args := #[s, x], argTypes := #[t, t] })
    (base : Nat) (e : TypeId) (i : TypeInfo) (z : Value) (size bytes : Nat) (ht : P.underlying t = some (.slice e)) (hi : P.info? e = some i) (hz : i.zero = some z)
    (hsize : i.size = size) (hby : i.bytes = bytes) (hzs : z.cells.size = size) (hsz : 0 < size)
    (g cap : Nat) (n : Nat) (xs : List Value) (hs : a.eval s = .slice (some ⟨g, 0, none⟩) n cap) (hown : w.ownsRow base e size (.slice (some ⟨g, 0, none⟩) n cap) n xs)
    (ad : Addr) (m c : Nat) (news : List Value) (hx : a.eval x = .slice (some ad) m c) (hl : news.length = m * size) (hnews : ∀ j u, news[j]? = some u → w.cell? (ad.add j) = some u) (h1 : ∀ u ∈ news, u.oneCell' = true)
    (h63 : n + m ≤ maxLen) (hbytes : (n + m) * bytes ≤ 140737488355328) (hbase : base ≤ w.heap.size)
    (h : ∀ v' w', w'.ownsRow base e size v' (n + m) (xs ++ news) → w.grownBy w' (some g) → (∀ g', v'.ownBlock = some g' → g' = g ∨ w.heap.size ≤ g') → wpList P ops Q rest (a.put o.dst v') w') : wpList P ops Q (o :: rest) a w := by
  refine wpList_plain hgd fun K hK => ?_
  obtain ⟨v', w', hr, h2, h3, h4⟩ := run_append_own (P := P) w base t o.type e i z size bytes ht hi hz hsize hby hzs hsz _ n xs hown ad m c news hl hnews h1 h63 hbytes hbase
  have h5 : ∀ g', v'.ownBlock = some g' → g' = g ∨ w.heap.size ≤ g' := by
    rcases hown.2 with ⟨e1, _⟩ | ⟨g1, cap1, cur, e1, hb, hg, hnc, hcm, hcs, htk⟩
    · cases e1
    · cases e1
      subst hsize
      have hm63 : n + m ≤ 9223372036854775807 := by simp only [maxLen] at h63; omega
      by_cases hroom : n + m ≤ cap
      · have hfit : n * i.size + news.length ≤ cur.size := by rw [hl, hcs, ← Nat.add_mul]; exact Nat.mul_le_mul_right _ hroom
        have hr2 := run_append_room (P := P) w t o.type e i ht hi g n cap cur hg ad m c news hl hnews h1 hroom hfit
        rw [hr2] at hr
        cases hr
        intro g' hg'
        exact .inl (by simpa [Value.ownBlock] using hg'.symm)
      · have hr2 := run_append_grow (P := P) w t o.type e i z ht hi hz ⟨g, 0, none⟩ n cap xs hown.1 (hown.cells (g := g) rfl) ad m c news hl hnews (by omega) (by omega) (growslice_fits (by omega) (by rw [hby]; exact hbytes))
        rw [hr2] at hr
        cases hr
        intro g' hg'
        exact .inr (Nat.le_of_eq (by simpa [Value.ownBlock] using hg'))
  unfold Oper.wp execOp
  simp only [ho, resolve, invoke, builtin, Sem.run_bind, Sem.run_pure, Result.andThen_ok, List.map_toArray, List.map_cons, List.map_nil, hs, hx, hr]
  exact hK _ _ (h v' w' h2 h3 h5)

/-- A row of puts: places, and what goes there. -/
def rowG (pos : Nat → Int) (f : Nat → List UInt8) (k : Nat) : List (Int × List UInt8) := (List.range k).map fun i => (pos i, f i)
section
variable {pos : Nat → Int} {f : Nat → List UInt8}
theorem rowG_length (k : Nat) : (rowG pos f k).length = k := by simp [rowG]
theorem rowG_more (k : Nat) : rowG pos f (k + 1) = rowG pos f k ++ [(pos k, f k)] := by
  unfold rowG
  rw [List.range_succ, List.map_append]
  rfl
theorem rowG_slot (k i : Nat) (h : i < k) : slot (rowG pos f k) i = (pos i, f i) :=
  slot_some (by unfold rowG; rw [List.getElem?_map, List.getElem?_range h]; rfl)
theorem rowG_group (k : Nat) (h : k ≤ 40) (h1 : ∀ i, i < 40 → 199 ≤ pos i ∧ pos i < 259) (h2 : ∀ i j, i < 40 → j < 40 → i ≠ j → pos i ≠ pos j) (hf : ∀ i, (f i).length = 64) : IsGroup 259 0 (rowG pos f k) := by
  have hl := rowG_length (pos := pos) (f := f) k
  refine ⟨by omega, fun i hi => ?_, fun i hi => ?_, fun i hi => ?_, fun i hi => ?_, fun i j hi hj hne => ?_⟩
  · rw [rowG_slot k i (by omega)]; have := h1 i (by omega); simp only; omega
  · rw [rowG_slot k i (by omega)]; have := h1 i (by omega); simp only; omega
  · rw [rowG_slot k i (by omega)]; have := h1 i (by omega); unfold inJ; simp only; omega
  · rw [rowG_slot k i (by omega)]; exact hf i
  · rw [rowG_slot k i (by omega), rowG_slot k j (by omega)]; exact h2 i j (by omega) (by omega) hne
end
def posA (i : Nat) : Int := 199 + (i : Nat)
def posB (i : Nat) : Int := 199 + ((7 * i % 60 : Nat) : Int)
theorem posA_in (i : Nat) (h : i < 40) : 199 ≤ posA i ∧ posA i < 259 := by unfold posA; omega
theorem posB_in (i : Nat) (h : i < 40) : 199 ≤ posB i ∧ posB i < 259 := by unfold posB; omega
theorem posA_ne (i j : Nat) (hi : i < 40) (hj : j < 40) (h : i ≠ j) : posA i ≠ posA j := by unfold posA; omega
theorem posB_ne (i j : Nat) (hi : i < 40) (hj : j < 40) (h : i ≠ j) : posB i ≠ posB j := by unfold posB; omega
def fullOf (z : List UInt8) (i : Nat) : List UInt8 := fullBytes (z.getD i 0) (UInt8.ofNat i)
theorem fullOf_length (z : List UInt8) (i : Nat) : (fullOf z i).length = 64 := fullBytes_length _ _

/-- The slice begun: no put yet. -/
theorem PutsOwn.empty {w : World} {gb lo : Nat} (h : w.heap[gb]? = some (.cells #[] 44 (0, 0))) (hlo : lo ≤ gb) : PutsOwn lo w (.slice (some ⟨gb, 0, none⟩) 0 0) [] [] :=
  ⟨⟨rfl, .inr ⟨gb, 0, #[], rfl, hlo, h, Nat.le_refl _, by decide, rfl, rfl⟩⟩, ⟨_, _, rfl⟩, rfl, fun i b e => by simp at e⟩
theorem PutsOwn.puts2 {lo : Nat} {w : World} {x : Option Addr} {n c : Nat} {bl : List Nat} {L : List (Int × List UInt8)} (h : PutsOwn lo w (.slice x n c) bl L) (hL : ∀ i, i < L.length → (slot L i).2.length = 64) {T : Nat → Prop} {gb : Nat} (hg : ∀ g, x = some ⟨g, 0, none⟩ → g ≠ gb) (hb : ∀ b ∈ bl, b ≠ gb) (hT : ∀ k, T k → k < lo ∨ k = gb ∨ w.heap.size ≤ k) : PutsAt T w x L := by
  obtain ⟨g, c', e⟩ := h.shape
  cases e
  intro i b bs hi
  have hil : i < L.length := by
    rcases Nat.lt_or_ge i L.length with h1 | h1
    · exact h1
    · rw [List.getElem?_eq_none h1] at hi; cases hi
  obtain ⟨q, hq⟩ : ∃ q, bl[i]? = .some q := ⟨_, List.getElem?_eq_getElem (by rw [← h.len]; exact hil)⟩
  obtain ⟨hlo, hblk⟩ := h.rows i q hq
  have hs : slot L i = (b, bs) := slot_some hi
  have h64 := hL i hil
  rw [hs] at hblk h64
  obtain ⟨v0, v1⟩ := putVals_at L bl i (b, bs) q hi hq
  have hg1 := h.own.lt g rfl
  have hq1 := lt_of_heap hblk
  have hg2 := hg g rfl
  have hb2 := hb q (List.mem_iff_getElem?.2 ⟨i, hq⟩)
  refine ⟨⟨g, 0, none⟩, .some ⟨q, 0, none⟩, 64, rfl, h.own.cells (g := g) rfl (i * 2) _ v0, ?_, .of_row (.of_cells hblk), fun e => by rcases hT _ e with h | h | h <;> simp only at h <;> omega, fun s e _ => by cases e; exact fun e => by rcases hT _ e with h | h | h <;> simp only at h <;> omega⟩
  have h2 := h.own.cells (g := g) rfl (i * 2 + 1) _ v1
  rw [add_zero_block] at h2
  rw [add_zero_block]
  simp only at h64
  rw [h64]
  exact h2

section
variable {B : Nat} {w0 w w' : World} {p r jb : Nat} {D : DK} {at_ : Int} {gj : Nat} {m : Int} {E : Img} {hv : Value}
theorem Cr.commit2 (h : Cr B w0 w p r jb D at_ gj m E hv) (hon : D.off = false) (ha : 0 ≤ at_) (ha2 : at_ ≤ 60) (hm : m < 1000000000) (hg : gj < 1000000) (hc : Clean at_ gj D.get E) (x : Option Addr) (l : List (Int × List UInt8)) (n c : Nat) (hn : n = l.length) (hgr : IsGroup 259 at_ l) (hP : PutsAt (Three p r jb) w x l) :
    Calls Try.prog 17 #[.pointer (some ⟨jb, 0, none⟩), .slice x n c] w fun e w' => ∃ c D' g', e = .returned (.int .i64 c) ∧ Cr B w0 w' p r jb D' at_ g' (m + 400) E hv ∧ Next D D' c ∧ (c = 0 → g' = gj + 1 ∧ Clean at_ (gj + 1) D'.get (applied l E)) ∧ (Sound 259 at_ gj D'.get E ∨ Sound 259 at_ (gj + 1) D'.get (applied l E)) ∧ Only (Three p r jb) w w' := by
  have hmay := may_of_group h.len hgr
  obtain ⟨n1, c1, c2⟩ := jCommit_spec (D := D) ha (by omega) (by decide) hon h.len hgr hc
  have u1 := jCommit_under h.under at_ gj l true (fun _ => hgr.few)
  have hcc := commit_calls h.j ha (by rw [h.len]; omega) (by rw [h.len]; decide) (by omega) x l n c hn (by have := hgr.few; omega) hP m h.under (by omega)
  rw [hmay] at hcc
  refine hcc.mono ?_
  rintro e w' ⟨rfl, j, o⟩
  exact ⟨_, _, _, rfl, h.three j o (n1.len.trans h.len) u1, n1, c1, c2, o⟩
/-- A clone's blocks are none of rows. -/
theorem DiskAt.noRow (h : DiskAt w p r D) : ∀ i, Two p r i → ¬ RowTy w i := by
  obtain ⟨es, c, hm, -⟩ := h.map
  rintro i hi ⟨cur, t, z, hc, ht⟩
  rcases hi with rfl | rfl
  · rw [h.cells] at hc
    cases hc
    revert ht; decide
  · rw [hm] at hc; cases hc
end

/-- What stays while the tries go on: the disk that is cloned, the group, the rows ahead and behind. -/
structure Tries (B lo : Nat) (w0 w : World) (pb rb : Nat) (D1 : DK) (x : Option Addr) (l : List (Int × List UInt8)) (v13 v18 : Value) (E1 E2 : Img) : Prop where
  base : DiskAt w pb rb D1
  below : Below B w0 w
  hB : B ≤ w.heap.size
  hlo : lo ≤ w.heap.size
  hBlo : B ≤ lo
  hp : pb < lo ∧ rb < lo
  puts : PutsAt (fun i => lo ≤ i) w x l
  r13 : HasAt B w v13 (rowsTo 0 E1 259)
  r18 : HasAt B w v18 (rowsTo 0 E2 259)
theorem Tries.only {B lo : Nat} {w0 w w' : World} {pb rb : Nat} {D1 : DK} {x : Option Addr} {l : List (Int × List UInt8)} {v13 v18 : Value} {E1 E2 : Img} {S : Nat → Prop} (h : Tries B lo w0 w pb rb D1 x l v13 v18 E1 E2) (o : Only S w w') (h1 : ∀ i, S i → lo ≤ i) (h2 : ∀ i, S i → ¬ RowTy w i) : Tries B lo w0 w' pb rb D1 x l v13 v18 E1 E2 :=
  ⟨h.base.only o (fun e => by have := h1 _ e; have := h.hp.1; omega) (fun e => by have := h1 _ e; have := h.hp.2; omega), o.below h.below h.hB (fun i hi => Nat.le_trans h.hBlo (h1 i hi)), Nat.le_trans h.hB o.size, Nat.le_trans h.hlo o.size, h.hBlo, h.hp, h.puts.only o h1, h.r13.only o h2, h.r18.only o h2⟩
theorem Tries.grow {B lo : Nat} {w0 w w' : World} {pb rb : Nat} {D1 : DK} {x : Option Addr} {l : List (Int × List UInt8)} {v13 v18 : Value} {E1 E2 : Img} (h : Tries B lo w0 w pb rb D1 x l v13 v18 E1 E2) (o : Only (fun _ => False) w w') : Tries B lo w0 w' pb rb D1 x l v13 v18 E1 E2 := h.only o (fun _ e => e.elim) (fun _ e => e.elim)
end Go.Proofs.Ytpmlmjbhgonegaa
