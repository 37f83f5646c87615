/- JournalApart's words: two journals on one disk, and the tables of the law. -/
import Derived.Test.YtpmlmjbhgonegaaJSeen
namespace Go.Proofs.Ytpmlmjbhgonegaa
open Go.RowKit
set_option linter.unusedVariables false

theorem cells_apart {w : World} {a b : Nat} {c c' : Array Value} {t t' : TypeId} {z z' : Nat × Nat} (h : w.heap[a]? = some (.cells c t z)) (h' : w.heap[b]? = some (.cells c' t' z')) (ht : t ≠ t') : a ≠ b := by
  rintro rfl
  rw [h] at h'
  injection h' with h'
  injection h' with _ h'
  exact ht h'
theorem map_apart {w : World} {a b : Nat} {c : Array Value} {t : TypeId} {z : Nat × Nat} {es : Array MapEntry} {k : Nat} (h : w.heap[a]? = some (.cells c t z)) (h' : w.heap[b]? = some (.map es k)) : a ≠ b := by
  rintro rfl
  rw [h] at h'
  cases h'

/-- The group under way: c is its byte, z the last one; it goes over the N blocks from off on. -/
structure Under2 (c z : UInt8) (base : Int) (off N : Nat) (hl : List UInt8) (sl : List Bool) (hl2 : List UInt8) (G : List (Int × List UInt8)) : Prop where
  slen : sl.length = N
  hlen : hl2.length = hl.length
  room : off + N ≤ hl.length
  form : ∀ i, i < G.length → ∃ a, a < N ∧ slot G i = (base + (off + a : Nat), fullBytes c z) ∧ sl.getD a false = true
  seen : ∀ a, a < N → sl.getD a false = true → ∃ i, i < G.length ∧ slot G i = (base + (off + a : Nat), fullBytes c z)
  once : ∀ i j, i < G.length → j < G.length → i ≠ j → (slot G i).1 ≠ (slot G j).1
  tab : ∀ a, a < N → hl2.getD (off + a) 0 = if sl.getD a false = true then c else hl.getD (off + a) 0
  rest : ∀ b, b < off ∨ off + N ≤ b → hl2.getD b 0 = hl.getD b 0

theorem Under2.start (c z : UInt8) (base : Int) (off N : Nat) (hl : List UInt8) (h : off + N ≤ hl.length) : Under2 c z base off N hl (List.replicate N false) hl [] := by
  have hf : ∀ a, (List.replicate N false).getD a false = false := fun a => by
    rw [List.getD_eq_getElem?_getD, List.getElem?_replicate]
    split <;> rfl
  refine ⟨by simp, rfl, h, fun i hi => (by simp at hi), fun a _ e => absurd ((hf a).symm.trans e) (by decide), fun i j hi => (by simp at hi), fun a _ => ?_, fun _ _ => rfl⟩
  rw [hf, if_neg (by decide)]

theorem Under2.more {c z : UInt8} {base : Int} {off N : Nat} {hl : List UInt8} {sl : List Bool} {hl2 : List UInt8} {G : List (Int × List UInt8)} (h : Under2 c z base off N hl sl hl2 G) {a : Nat} (ha : a < N) (hs : sl.getD a false = false) :
    Under2 c z base off N hl (sl.set a true) (hl2.set (off + a) c) (G ++ [(base + (off + a : Nat), fullBytes c z)]) := by
  have hsl := h.slen
  have hhl := h.hlen
  have hrm := h.room
  have hnew : ∀ i, i < G.length → (slot G i).1 ≠ base + (off + a : Nat) := fun i hi e => by
    obtain ⟨b, hb, hf, ht⟩ := h.form i hi
    rw [hf] at e
    have : b = a := by simp only at e; omega
    subst this
    rw [hs] at ht
    cases ht
  have hget : ∀ b, b < N → ((sl.set a true).getD b false = true ↔ b = a ∨ sl.getD b false = true) := fun b hb => by
    by_cases e : a = b
    · subst e; rw [getD_set_self _ _ _ _ (by omega)]; simp
    · rw [getD_set_other _ _ _ _ _ e]
      exact ⟨.inr, fun h => h.elim (fun h => absurd h.symm e) id⟩
  refine ⟨by simp [hsl], by simp [hhl], hrm, fun i hi => ?_, fun b hb e => ?_, fun i j hi hj hne => ?_, fun b hb => ?_, fun b hb => ?_⟩
  · simp only [List.length_append, List.length_cons, List.length_nil] at hi
    by_cases hlt : i < G.length
    · obtain ⟨b, hb, hf, ht⟩ := h.form i hlt
      exact ⟨b, hb, by rw [slot_append_lt hlt]; exact hf, (hget b hb).2 (.inr ht)⟩
    · have : i = G.length := by omega
      subst this
      exact ⟨a, ha, slot_append_len _ _, (hget a ha).2 (.inl rfl)⟩
  · rcases (hget b hb).1 e with rfl | e
    · exact ⟨G.length, by simp, slot_append_len _ _⟩
    · obtain ⟨i, hi, hf⟩ := h.seen b hb e
      exact ⟨i, by simp; omega, by rw [slot_append_lt hi]; exact hf⟩
  · simp only [List.length_append, List.length_cons, List.length_nil] at hi hj
    by_cases hil : i < G.length
    · rw [slot_append_lt hil]
      by_cases hjl : j < G.length
      · rw [slot_append_lt hjl]; exact h.once i j hil hjl hne
      · have : j = G.length := by omega
        subst this
        rw [slot_append_len]
        exact hnew i hil
    · have : i = G.length := by omega
      subst this
      rw [slot_append_len, slot_append_lt (by omega)]
      exact (hnew j (by omega)).symm
  · by_cases e : a = b
    · subst e
      rw [getD_set_self _ _ _ _ (by omega), getD_set_self _ _ _ _ (by omega), if_pos rfl]
    · rw [getD_set_other _ _ _ _ _ (by omega), getD_set_other _ _ _ _ _ e]
      exact h.tab b hb
  · rw [getD_set_other _ _ _ _ _ (by omega)]
    exact h.rest b hb

theorem Under2.group {c z : UInt8} {base at_ len : Int} {off N : Nat} {hl : List UInt8} {sl : List Bool} {hl2 : List UInt8} {G : List (Int × List UInt8)} (h : Under2 c z base off N hl sl hl2 G) (hfew : G.length ≤ 192) (h0 : 0 ≤ base) (h1 : base + (off + N : Nat) ≤ len) (h2 : at_ + 199 ≤ base) : IsGroup len at_ G := by
  refine ⟨hfew, fun i hi => ?_, fun i hi => ?_, fun i hi => ?_, fun i hi => ?_, h.once⟩
  all_goals
    obtain ⟨a, ha, hf, -⟩ := h.form i hi
    rw [hf]
  · simp only; omega
  · simp only; omega
  · unfold inJ; simp only; omega
  · exact fullBytes_length _ _
theorem Under2.high {c z : UInt8} {base : Int} {off N : Nat} {hl : List UInt8} {sl : List Bool} {hl2 : List UInt8} {G : List (Int × List UInt8)} (h : Under2 c z base off N hl sl hl2 G) : ∀ i, i < G.length → base ≤ (slot G i).1 := by
  intro i hi
  obtain ⟨a, ha, hf, -⟩ := h.form i hi
  rw [hf]
  simp only; omega

/-- What the table says, the blocks show. -/
def Tells (hl : List UInt8) (z : UInt8) (base : Int) (E : Img) : Prop := ∀ b : Nat, b < hl.length → hl.getD b 0 > 0 → E (base + (b : Nat)) = fullBytes (hl.getD b 0) z
theorem Tells.same {hl : List UInt8} {z : UInt8} {base : Int} {E E' : Img} (h : Tells hl z base E) (e : ∀ n, base ≤ n → E' n = E n) : Tells hl z base E' := fun b hb hp => (e _ (by omega)).trans (h b hb hp)
theorem Under2.shows {c z : UInt8} {base at_ len : Int} {off N : Nat} {hl : List UInt8} {sl : List Bool} {hl2 : List UInt8} {G : List (Int × List UInt8)} (h : Under2 c z base off N hl sl hl2 G) (hg : IsGroup len at_ G) {E : Img} (hE : Tells hl z base E) : Tells hl2 z base (applied G E) := by
  intro b hb hp
  rw [h.hlen] at hb
  have hold : (∀ i, i < G.length → (slot G i).1 ≠ base + (b : Nat)) → hl2.getD b 0 = hl.getD b 0 → applied G E (base + (b : Nat)) = fullBytes (hl2.getD b 0) z := fun h1 h2 => by
    rw [applied_other E h1, h2]
    exact hE b hb (by rw [← h2]; exact hp)
  by_cases hin : off ≤ b ∧ b < off + N
  · obtain ⟨a, rfl⟩ : ∃ a, b = off + a := ⟨b - off, by omega⟩
    have ht := h.tab a (by omega)
    by_cases hs : sl.getD a false = true
    · obtain ⟨i, hi, hf⟩ := h.seen a (by omega) hs
      have := applied_named hg E hi
      rw [hf] at this
      rw [ht, if_pos hs]
      exact this
    · rw [if_neg hs] at ht
      exact hold (fun i hi e => by
        obtain ⟨q, hq, hf, hq2⟩ := h.form i hi
        rw [hf] at e
        have : q = a := by simp only at e; omega
        subst this
        exact hs hq2) ht
  · exact hold (fun i hi e => by
      obtain ⟨q, hq, hf, hq2⟩ := h.form i hi
      rw [hf] at e
      simp only at e
      omega) (h.rest b (by omega))

/-- Format on a disk that is on, without a fuse. -/
theorem format_fit {B : Nat} {w0 w : World} {p r : Nat} {D : DK} (h : DSt B w0 w p r D) {at_ len : Int} (m : Int) (hf : Fit D len m) (ha : 0 ≤ at_) (ha2 : at_ + 199 ≤ len) (hl : len ≤ 4096) (hm : m < 1000000000) :
    Calls Try.prog 12 #[.pointer (some ⟨p, 0, none⟩), .int .i64 at_] w fun e w' => e = .returned (.int .i64 0) ∧ ∃ D', DSt B w0 w' p r D' ∧ Fit D' len (m + 1) ∧ Clean at_ 0 D'.get D.get ∧ Only (Two p r) w w' := by
  obtain ⟨n1, c1, -⟩ := jFormat_spec (E := D.get) ha ha2 hf.off hf.len (fun n _ => rfl)
  have u1 := jFormat_under hf.under at_
  obtain ⟨e1, f1⟩ := hf.next n1 u1
  have hfc := format_calls h at_ (by rw [hf.len]; omega) (by rw [hf.len]; exact hl) (hf.under.fine (by omega))
  rw [e1] at hfc
  refine hfc.mono ?_
  rintro e w' ⟨rfl, s, o⟩
  exact ⟨rfl, _, s, f1, c1 e1, o⟩

/-- A place of two, written. -/
def at2 (f : Nat → Nat) (k x : Nat) : Nat → Nat := fun q => if q = k then x else f q
theorem at2_self (f : Nat → Nat) (k x : Nat) : at2 f k x k = x := if_pos rfl
theorem at2_other (f : Nat → Nat) {k q : Nat} (x : Nat) (h : q ≠ k) : at2 f k x q = f q := if_neg h
def ptrs2 (f : Nat → Nat) : Array Value := #[.pointer (some ⟨f 0, 0, none⟩), .pointer (some ⟨f 1, 0, none⟩)]
def ints2 (f : Nat → Nat) : Array Value := #[.int .i64 (f 0 : Nat), .int .i64 (f 1 : Nat)]
def two199 : Nat → Nat := fun k => 199 * k
theorem ptrs2_set (f : Nat → Nat) (k x : Nat) (hk : k < 2) : (ptrs2 f).setIfInBounds k (.pointer (some ⟨x, 0, none⟩)) = ptrs2 (at2 f k x) := by
  rcases (show k = 0 ∨ k = 1 by omega) with rfl | rfl <;> simp [ptrs2, at2]
theorem ints2_set (f : Nat → Nat) (k x : Nat) (hk : k < 2) : (ints2 f).setIfInBounds k (.int .i64 (x : Nat)) = ints2 (at2 f k x) := by
  rcases (show k = 0 ∨ k = 1 by omega) with rfl | rfl <;> simp [ints2, at2]
theorem ptrs2_get (f : Nat → Nat) (k : Nat) (hk : k < 2) : (ptrs2 f)[k]? = some (.pointer (some ⟨f k, 0, none⟩)) := by
  rcases (show k = 0 ∨ k = 1 by omega) with rfl | rfl <;> simp [ptrs2]
theorem ints2_get (f : Nat → Nat) (k : Nat) (hk : k < 2) : (ints2 f)[k]? = some (.int .i64 (f k : Nat)) := by
  rcases (show k = 0 ∨ k = 1 by omega) with rfl | rfl <;> simp [ints2]

/-- Two journals on one disk, at 0 and 199, that count gs; the law's tables. -/
structure Ap (B : Nat) (w0 w : World) (p r : Nat) (D : DK) (jbs gs : Nat → Nat) (m : Int) (pb sb nb hb : Nat) (ms : Nat → Nat) (hl : List UInt8) : Prop where
  st : ∀ k, k < 2 → JSt B w0 w p r D (jbs k) ((199 * k : Nat) : Int) (gs k : Nat)
  ne : jbs 0 ≠ jbs 1
  head : ∀ k, k < 2 → D.get ((199 * k : Nat) : Int) = headBytes (gs k) 0
  fit : Fit D 438 m
  pl : w.heap[pb]? = some (.cells (ints2 two199) 52 (0, 0))
  js : w.heap[sb]? = some (.cells (ptrs2 jbs) 53 (0, 0))
  ns : w.heap[nb]? = some (.cells (ints2 ms) 52 (0, 0))
  hs : w.heap[hb]? = some (.cells (bvs hl) 54 (0, 0))
  low : B ≤ sb ∧ B ≤ nb ∧ B ≤ hb ∧ pb ≠ nb
section
variable {B : Nat} {w0 w w' : World} {p r : Nat} {D : DK} {jbs gs ms : Nat → Nat} {m : Int} {pb sb nb hb : Nat} {hl : List UInt8}
theorem Ap.d (h : Ap B w0 w p r D jbs gs m pb sb nb hb ms hl) : DSt B w0 w p r D := (h.st 0 (by decide)).st
theorem Ap.far (h : Ap B w0 w p r D jbs gs m pb sb nb hb ms hl) : (∀ i, Two p r i → i ≠ pb ∧ i ≠ sb ∧ i ≠ nb ∧ i ≠ hb) ∧ (∀ k, k < 2 → jbs k ≠ pb ∧ jbs k ≠ sb ∧ jbs k ≠ nb ∧ jbs k ≠ hb) ∧ sb ≠ pb ∧ sb ≠ nb ∧ sb ≠ hb ∧ hb ≠ pb ∧ hb ≠ nb := by
  have hc := h.d.disk.cells
  obtain ⟨es, c, hm, -⟩ := h.d.disk.map
  refine ⟨fun i hi => ?_, fun k hk => ?_, ?_, ?_, ?_, ?_, ?_⟩
  · rcases hi with rfl | rfl
    · exact ⟨cells_apart hc h.pl (by decide), cells_apart hc h.js (by decide), cells_apart hc h.ns (by decide), cells_apart hc h.hs (by decide)⟩
    · exact ⟨(map_apart h.pl hm).symm, (map_apart h.js hm).symm, (map_apart h.ns hm).symm, (map_apart h.hs hm).symm⟩
  · have hj := (h.st k hk).cells
    exact ⟨cells_apart hj h.pl (by decide), cells_apart hj h.js (by decide), cells_apart hj h.ns (by decide), cells_apart hj h.hs (by decide)⟩
  · exact cells_apart h.js h.pl (by decide)
  · exact cells_apart h.js h.ns (by decide)
  · exact cells_apart h.js h.hs (by decide)
  · exact cells_apart h.hs h.pl (by decide)
  · exact cells_apart h.hs h.ns (by decide)
theorem Ap.lts (h : Ap B w0 w p r D jbs gs m pb sb nb hb ms hl) : p < w.heap.size ∧ r < w.heap.size ∧ jbs 0 < w.heap.size ∧ jbs 1 < w.heap.size ∧ pb < w.heap.size ∧ sb < w.heap.size ∧ nb < w.heap.size ∧ hb < w.heap.size := by
  obtain ⟨es, c, hm, -⟩ := h.d.disk.map
  exact ⟨lt_of_heap h.d.disk.cells, lt_of_heap hm, lt_of_heap (h.st 0 (by decide)).cells, lt_of_heap (h.st 1 (by decide)).cells, lt_of_heap h.pl, lt_of_heap h.js, lt_of_heap h.ns, lt_of_heap h.hs⟩
/-- Blocks of others, from B on, are written. -/
theorem Ap.other {S : Nat → Prop} (h : Ap B w0 w p r D jbs gs m pb sb nb hb ms hl) (k : Only S w w') (hS : ∀ i, S i → B ≤ i ∧ i ≠ p ∧ i ≠ r ∧ i ≠ jbs 0 ∧ i ≠ jbs 1 ∧ i ≠ pb ∧ i ≠ sb ∧ i ≠ nb ∧ i ≠ hb) : Ap B w0 w' p r D jbs gs m pb sb nb hb ms hl := by
  refine { h with st := fun q hq => ?_, pl := k.keeps h.pl (fun e => (hS _ e).2.2.2.2.2.1 rfl), js := k.keeps h.js (fun e => (hS _ e).2.2.2.2.2.2.1 rfl), ns := k.keeps h.ns (fun e => (hS _ e).2.2.2.2.2.2.2.1 rfl), hs := k.keeps h.hs (fun e => (hS _ e).2.2.2.2.2.2.2.2 rfl) }
  have hj := h.st q hq
  refine ⟨⟨hj.st.disk.only k (fun e => (hS _ e).2.1 rfl) (fun e => (hS _ e).2.2.1 rfl), k.below hj.st.below hj.st.hB (fun i hi => (hS i hi).1), hj.st.hp, hj.st.hr, Nat.le_trans hj.st.hB k.size⟩, k.keeps hj.cells (fun e => ?_), hj.hj, hj.np, hj.nr⟩
  rcases (show q = 0 ∨ q = 1 by omega) with rfl | rfl
  · exact (hS _ e).2.2.2.1 rfl
  · exact (hS _ e).2.2.2.2.1 rfl
theorem Ap.same (h : Ap B w0 w p r D jbs gs m pb sb nb hb ms hl) (k : Only (fun _ => False) w w') : Ap B w0 w' p r D jbs gs m pb sb nb hb ms hl := h.other k (fun _ e => e.elim)
theorem Ap.drew (h : Ap B w0 w p r D jbs gs m pb sb nb hb ms hl) : Ap B w0 w.drew p r D jbs gs m pb sb nb hb ms hl := { h with st := fun q hq => (h.st q hq).drew, pl := h.pl, js := h.js, ns := h.ns, hs := h.hs }
theorem JSt.put {jb : Nat} {at_ g : Int} (h : JSt B w0 w p r D jb at_ g) (b o : Nat) (v : Value) (hB : B ≤ b) (hp : b ≠ p) (hr : b ≠ r) (hj : jb ≠ b) : JSt B w0 (w.setCell ⟨b, o, none⟩ v) p r D jb at_ g :=
  ⟨h.st.put b o v hB hp hr, ((Only.refl (· = b) w).put o v).keeps h.cells hj, h.hj, h.np, h.nr⟩
theorem Ap.seth (h : Ap B w0 w p r D jbs gs m pb sb nb hb ms hl) (o : Nat) (x : UInt8) : Ap B w0 (w.setCell ⟨hb, o, none⟩ (bv x)) p r D jbs gs m pb sb nb hb ms (hl.set o x) := by
  obtain ⟨f1, f2, f3, f4, f5, f6, f7⟩ := h.far
  have k : Only (· = hb) w (w.setCell ⟨hb, o, none⟩ (bv x)) := (Only.refl _ w).put o _
  exact { h with st := fun q hq => (h.st q hq).put hb o _ h.low.2.2.1 (f1 p (.inl rfl)).2.2.2.symm (f1 r (.inr rfl)).2.2.2.symm (f2 q hq).2.2.2, pl := k.keeps h.pl (fun e => f6 e.symm), js := k.keeps h.js f5, ns := k.keeps h.ns (fun e => f7 e.symm), hs := by rw [heap_setCell_same w hb o _ _ _ h.hs, bvs_set] }
theorem Ap.setn (h : Ap B w0 w p r D jbs gs m pb sb nb hb ms hl) (k x : Nat) (hk : k < 2) : Ap B w0 (w.setCell ⟨nb, k, none⟩ (.int .i64 (x : Nat))) p r D jbs gs m pb sb nb hb (at2 ms k x) hl := by
  obtain ⟨f1, f2, f3, f4, f5, f6, f7⟩ := h.far
  have k' : Only (· = nb) w (w.setCell ⟨nb, k, none⟩ (.int .i64 (x : Nat))) := (Only.refl _ w).put k _
  exact { h with st := fun q hq => (h.st q hq).put nb k _ h.low.2.1 (f1 p (.inl rfl)).2.2.1.symm (f1 r (.inr rfl)).2.2.1.symm (f2 q hq).2.2.1, pl := k'.keeps h.pl h.low.2.2.2, js := k'.keeps h.js f4, ns := by rw [heap_setCell_same w nb k _ _ _ h.ns, ints2_set _ _ _ hk], hs := k'.keeps h.hs f7 }
theorem Ap.bound (h : Ap B w0 w p r D jbs gs m pb sb nb hb ms hl) {m' : Int} (hm : m ≤ m') : Ap B w0 w p r D jbs gs m' pb sb nb hb ms hl := { h with fit := ⟨h.fit.len, h.fit.off, h.fit.fuse, h.fit.under.mono hm⟩ }
/-- Commit of the one journal. -/
theorem Ap.commit (h : Ap B w0 w p r D jbs gs m pb sb nb hb ms hl) (k : Nat) (hk : k < 2) (hg : gs k < 1000000) (hm : m < 1000000000) (x : Option Addr) (l : List (Int × List UInt8)) (n c : Nat) (hn : n = l.length) (hgr : IsGroup 438 ((199 * k : Nat) : Int) l) (hhi : ∀ i, i < l.length → 398 ≤ (slot l i).1) (hP : PutsAt (Three p r (jbs k)) w x l) :
    Calls Try.prog 17 #[.pointer (some ⟨jbs k, 0, none⟩), .slice x n c] w fun e w' => e = .returned (.int .i64 0) ∧ (∃ D', Ap B w0 w' p r D' jbs (at2 gs k (gs k + 1)) (m + 400) pb sb nb hb ms hl ∧ ∀ q, 398 ≤ q → D'.get q = applied l D.get q) ∧ Only (Three p r (jbs k)) w w' := by
  obtain ⟨f1, f2, f3, f4, f5, f6, f7⟩ := h.far
  refine (commit_fit (E := D.get) (h.st k hk) m h.fit (by omega) (by omega) (by decide) hg hm ⟨h.head k hk, fun _ _ => rfl⟩ x l n c hn hgr hP).mono ?_
  rintro e w' ⟨rfl, D', j, f, cl, o⟩
  refine ⟨rfl, ⟨D', { h with st := fun q hq => ?_, head := fun q hq => ?_, fit := f, pl := o.keeps h.pl (fun e => ?_), js := o.keeps h.js (fun e => ?_), ns := o.keeps h.ns (fun e => ?_), hs := o.keeps h.hs (fun e => ?_) }, fun q hq => cl.out q (by unfold inJ; omega)⟩, o⟩
  · by_cases hqk : q = k
    · subst hqk; rw [at2_self]; exact j
    · have hj := h.st q hq
      rw [at2_other _ _ hqk]
      refine ⟨j.st, o.keeps hj.cells (fun e => ?_), hj.hj, hj.np, hj.nr⟩
      have hne := h.ne
      have hnn : jbs q ≠ jbs k := by
        rcases (show q = 0 ∧ k = 1 ∨ q = 1 ∧ k = 0 by omega) with ⟨rfl, rfl⟩ | ⟨rfl, rfl⟩
        · exact hne
        · exact hne.symm
      rcases e with e | e | e
      · exact hj.np e
      · exact hj.nr e
      · exact hnn e
  · by_cases hqk : q = k
    · subst hqk; rw [at2_self]; exact cl.head
    · rw [at2_other _ _ hqk, cl.out _ (by unfold inJ; omega), applied_other _ (fun i hi e => by have := hhi i hi; omega)]
      exact h.head q hq
  · rcases e with e | e | e
    · exact (f1 p (.inl rfl)).1 e.symm
    · exact (f1 r (.inr rfl)).1 e.symm
    · exact (f2 k hk).1 e.symm
  · rcases e with e | e | e
    · exact (f1 p (.inl rfl)).2.1 e.symm
    · exact (f1 r (.inr rfl)).2.1 e.symm
    · exact (f2 k hk).2.1 e.symm
  · rcases e with e | e | e
    · exact (f1 p (.inl rfl)).2.2.1 e.symm
    · exact (f1 r (.inr rfl)).2.2.1 e.symm
    · exact (f2 k hk).2.2.1 e.symm
  · rcases e with e | e | e
    · exact (f1 p (.inl rfl)).2.2.2 e.symm
    · exact (f1 r (.inr rfl)).2.2.2 e.symm
    · exact (f2 k hk).2.2.2 e.symm
/-- The one journal is opened anew, but the table holds the old one. -/
theorem Ap.open (h : Ap B w0 w p r D jbs gs m pb sb nb hb ms hl) (k : Nat) (hk : k < 2) (hg : gs k < 1000000) (hm : m < 1000000000) :
    Calls Try.prog 11 #[.pointer (some ⟨p, 0, none⟩), .int .i64 ((199 * k : Nat) : Int)] w fun e w' => ∃ jb D', e = .returned (.tuple #[.pointer (some ⟨jb, 0, none⟩), .int .i64 0]) ∧ w.heap.size ≤ jb ∧ jb < w'.heap.size ∧ JSt B w0 w' p r D' jb ((199 * k : Nat) : Int) (gs k : Nat) ∧ Ap B w0 w' p r D' jbs gs (m + 257) pb sb nb hb ms hl ∧ (∀ q, 398 ≤ q → D'.get q = D.get q) ∧ Only (Two p r) w w' := by
  obtain ⟨f1, f2, f3, f4, f5, f6, f7⟩ := h.far
  refine (open_fit (E := D.get) (h.st k hk).st m h.fit (by omega) (by omega) (by decide) hg hm (.inl ⟨h.head k hk, fun _ _ => rfl⟩)).mono ?_
  rintro e w' ⟨jb, D', rfl, hjb, j, f, cl, o⟩
  refine ⟨jb, D', rfl, hjb, lt_of_heap j.cells, j, { h with st := fun q hq => (h.st q hq).next j.st o, head := fun q hq => ?_, fit := f, pl := o.keeps h.pl (fun e => (f1 _ e).1 rfl), js := o.keeps h.js (fun e => (f1 _ e).2.1 rfl), ns := o.keeps h.ns (fun e => (f1 _ e).2.2.1 rfl), hs := o.keeps h.hs (fun e => (f1 _ e).2.2.2 rfl) }, fun q hq => cl.out q (by unfold inJ; omega), o⟩
  by_cases hqk : q = k
  · subst hqk; exact cl.head
  · rw [cl.out _ (by unfold inJ; omega)]
    exact h.head q hq
/-- And is laid into the table. -/
theorem Ap.setj (h : Ap B w0 w p r D jbs gs m pb sb nb hb ms hl) (k jb : Nat) (hk : k < 2) (j : JSt B w0 w p r D jb ((199 * k : Nat) : Int) (gs k : Nat)) (hne : ∀ q, q < 2 → q ≠ k → jbs q ≠ jb) : Ap B w0 (w.setCell ⟨sb, k, none⟩ (.pointer (some ⟨jb, 0, none⟩))) p r D (at2 jbs k jb) gs m pb sb nb hb ms hl := by
  obtain ⟨f1, f2, f3, f4, f5, f6, f7⟩ := h.far
  have k' : Only (· = sb) w (w.setCell ⟨sb, k, none⟩ (.pointer (some ⟨jb, 0, none⟩))) := (Only.refl _ w).put k _
  refine { h with st := fun q hq => ?_, ne := ?_, pl := k'.keeps h.pl f3.symm, js := by rw [heap_setCell_same w sb k _ _ _ h.js, ptrs2_set _ _ _ hk], ns := k'.keeps h.ns f4.symm, hs := k'.keeps h.hs f5.symm }
  · by_cases hqk : q = k
    · subst hqk
      rw [at2_self]
      exact j.put sb q _ h.low.1 (f1 p (.inl rfl)).2.1.symm (f1 r (.inr rfl)).2.1.symm (cells_apart j.cells h.js (by decide))
    · rw [at2_other _ _ hqk]
      exact (h.st q hq).put sb k _ h.low.1 (f1 p (.inl rfl)).2.1.symm (f1 r (.inr rfl)).2.1.symm (f2 q hq).2.1
  · rcases (show k = 0 ∨ k = 1 by omega) with rfl | rfl
    · rw [at2_self, at2_other _ _ (by decide)]
      exact (hne 1 (by decide) (by decide)).symm
    · rw [at2_self, at2_other _ _ (by decide)]
      exact hne 0 (by decide) (by decide)
end

/-- The first k journals are laid and opened. -/
def ptrsTo (f : Nat → Nat) (k : Nat) : Array Value := #[if 0 < k then .pointer (some ⟨f 0, 0, none⟩) else .pointer none, if 1 < k then .pointer (some ⟨f 1, 0, none⟩) else .pointer none]
structure Begun (B : Nat) (w0 w : World) (p r : Nat) (D : DK) (jbs : Nat → Nat) (k : Nat) (pb sb : Nat) : Prop where
  st : DSt B w0 w p r D
  fit : Fit D 438 ((300 * k : Nat) : Int)
  head : ∀ q, q < k → D.get ((199 * q : Nat) : Int) = headBytes 0 0
  js_ : ∀ q, q < k → JSt B w0 w p r D (jbs q) ((199 * q : Nat) : Int) (0 : Nat)
  ne : k = 2 → jbs 0 ≠ jbs 1
  pl : w.heap[pb]? = some (.cells (ints2 two199) 52 (0, 0))
  js : w.heap[sb]? = some (.cells (ptrsTo jbs k) 53 (0, 0))
  low : B ≤ sb
structure Begun2 (B : Nat) (w0 w : World) (p r : Nat) (D : DK) (jbs : Nat → Nat) (k : Nat) (pb sb : Nat) : Prop where
  st : DSt B w0 w p r D
  fit : Fit D 438 (((300 * k : Nat) : Int) + 1)
  head : ∀ q, q < k → D.get ((199 * q : Nat) : Int) = headBytes 0 0
  js_ : ∀ q, q < k → JSt B w0 w p r D (jbs q) ((199 * q : Nat) : Int) (0 : Nat)
  pl : w.heap[pb]? = some (.cells (ints2 two199) 52 (0, 0))
  js : w.heap[sb]? = some (.cells (ptrsTo jbs k) 53 (0, 0))
  low : B ≤ sb
section
variable {B : Nat} {w0 w w' : World} {p r : Nat} {D D' : DK} {jbs : Nat → Nat} {k pb sb : Nat}
theorem Begun.far (h : Begun B w0 w p r D jbs k pb sb) : ∀ i, Two p r i → i ≠ pb ∧ i ≠ sb := by
  have hc := h.st.disk.cells
  obtain ⟨es, c, hm, -⟩ := h.st.disk.map
  intro i hi
  rcases hi with rfl | rfl
  · exact ⟨cells_apart hc h.pl (by decide), cells_apart hc h.js (by decide)⟩
  · exact ⟨(map_apart h.pl hm).symm, (map_apart h.js hm).symm⟩
/-- Format at the k-th place. -/
theorem Begun.format (h : Begun B w0 w p r D jbs k pb sb) (hk : k < 2) (s : DSt B w0 w' p r D') (f : Fit D' 438 (((300 * k : Nat) : Int) + 1)) (c : Clean ((199 * k : Nat) : Int) 0 D'.get D.get) (o : Only (Two p r) w w') : Begun2 B w0 w' p r D' jbs k pb sb := by
  have f1 := h.far
  exact ⟨s, f, fun q hq => by rw [c.out _ (by unfold inJ; omega)]; exact h.head q hq, fun q hq => (h.js_ q hq).next s o, o.keeps h.pl (fun e => (f1 _ e).1 rfl), o.keeps h.js (fun e => (f1 _ e).2 rfl), h.low⟩
theorem Begun2.far (h : Begun2 B w0 w p r D jbs k pb sb) : ∀ i, Two p r i → i ≠ pb ∧ i ≠ sb := by
  have hc := h.st.disk.cells
  obtain ⟨es, c, hm, -⟩ := h.st.disk.map
  intro i hi
  rcases hi with rfl | rfl
  · exact ⟨cells_apart hc h.pl (by decide), cells_apart hc h.js (by decide)⟩
  · exact ⟨(map_apart h.pl hm).symm, (map_apart h.js hm).symm⟩
/-- And Open there: ahead of the store, and behind it. -/
theorem Begun2.opened {jb : Nat} {m : Int} (h : Begun2 B w0 w p r D jbs k pb sb) (hk : k < 2) (hjb : w.heap.size ≤ jb) (j : JSt B w0 w' p r D' jb ((199 * k : Nat) : Int) (0 : Nat)) (f : Fit D' 438 m) (hm : m ≤ ((300 * k : Nat) : Int) + 300) {E : Img} (hE : E = D.get) (c : Clean ((199 * k : Nat) : Int) 0 D'.get E) (o : Only (Two p r) w w') :
    Begun B w0 (w'.setCell ⟨sb, k, none⟩ (.pointer (some ⟨jb, 0, none⟩))) p r D' (at2 jbs k jb) (k + 1) pb sb ∧ w'.heap[sb]? = some (.cells (ptrsTo jbs k) 53 (0, 0)) := by
  subst hE
  have f1 := h.far
  have hjs := o.keeps h.js (fun e => (f1 _ e).2 rfl)
  have hpl := o.keeps h.pl (fun e => (f1 _ e).1 rfl)
  have k' : Only (· = sb) w' (w'.setCell ⟨sb, k, none⟩ (.pointer (some ⟨jb, 0, none⟩))) := (Only.refl _ w').put k _
  have hp := (f1 p (.inl rfl)).2.symm
  have hr := (f1 r (.inr rfl)).2.symm
  refine ⟨⟨j.st.put sb k _ h.low hp hr, ⟨f.len, f.off, f.fuse, f.under.mono (by omega)⟩, fun q hq => ?_, fun q hq => ?_, fun e => ?_, k'.keeps hpl (fun e => cells_apart hpl hjs (by decide) e), ?_, h.low⟩, hjs⟩
  · by_cases hqk : q = k
    · subst hqk; exact c.head
    · rw [c.out _ (by unfold inJ; omega)]; exact h.head q (by omega)
  · by_cases hqk : q = k
    · subst hqk; rw [at2_self]; exact j.put sb q _ h.low hp hr (cells_apart j.cells hjs (by decide))
    · rw [at2_other _ _ hqk]
      have hj := (h.js_ q (by omega)).next j.st o
      exact hj.put sb k _ h.low hp hr (cells_apart hj.cells hjs (by decide))
  · obtain rfl : k = 1 := by omega
    rw [at2_self, at2_other _ _ (by decide)]
    have := lt_of_heap (h.js_ 0 (by decide)).cells
    omega
  · rw [heap_setCell_same w' sb k _ _ _ hjs]
    congr 2
    rcases (show k = 0 ∨ k = 1 by omega) with rfl | rfl <;> simp [ptrsTo, at2]
theorem Begun.same (h : Begun B w0 w p r D jbs k pb sb) (o : Only (fun _ => False) w w') : Begun B w0 w' p r D jbs k pb sb :=
  ⟨h.st.same o, h.fit, h.head, fun q hq => (h.js_ q hq).same o, h.ne, o.keeps h.pl (fun e => e), o.keeps h.js (fun e => e), h.low⟩
theorem Begun.ap {nb hb : Nat} {hl : List UInt8} (h : Begun B w0 w p r D jbs 2 pb sb) (n : w.heap[nb]? = some (.cells (ints2 (fun _ => 0)) 52 (0, 0))) (hs : w.heap[hb]? = some (.cells (bvs hl) 54 (0, 0))) (low : B ≤ sb ∧ B ≤ nb ∧ B ≤ hb ∧ pb ≠ nb) :
    Ap B w0 w p r D jbs (fun _ => 0) 1000 pb sb nb hb (fun _ => 0) hl :=
  ⟨h.js_, h.ne rfl, h.head, ⟨h.fit.len, h.fit.off, h.fit.fuse, h.fit.under.mono (by decide)⟩, h.pl, h.js, n, hs, low⟩
end
end Go.Proofs.Ytpmlmjbhgonegaa
