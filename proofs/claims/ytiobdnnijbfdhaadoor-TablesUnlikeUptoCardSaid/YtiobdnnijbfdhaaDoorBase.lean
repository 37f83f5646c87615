/- Words and laws that the texts of this set share: a world that is as it was but for some blocks, maps keyed by ints, rows of bytes. -/
import Derived.WalkKit
import Derived.WalkLawsBesides
import Derived.WalkSpells
import Derived.KernelRfl
import Derived.Lib.Hide
import Derived.Deep.Cut
import Derived.Deep.DeepCutAuto
import Derived.Deep.CutBlock
import Derived.Deep.QuietTactic
import Derived.BigQuiet
import Derived.StillTailTactics
import Derived.Deep.RegionWith
import Derived.Deep.RegionHeld3
import Derived.Deep.LoopGhost
import Derived.Deep.DeepFit
namespace Go.Proofs.YtiobdnnijbfdhaaDoor
open Go.RowKit

/-- w' is w but for the blocks in S and new ones. -/
structure Only (S : Nat → Prop) (w w' : World) : Prop where
  os : w'.os = w.os
  tape : w'.tape = w.tape
  output : w'.output = w.output
  size : w.heap.size ≤ w'.heap.size
  block : ∀ k, k < w.heap.size → ¬ S k → w'.heap[k]? = w.heap[k]?

theorem Only.refl (S : Nat → Prop) (w : World) : Only S w w := ⟨rfl, rfl, rfl, Nat.le_refl _, fun _ _ _ => rfl⟩
theorem Only.trans {S : Nat → Prop} {a b c : World} (h : Only S a b) (k : Only S b c) : Only S a c :=
  ⟨k.os.trans h.os, k.tape.trans h.tape, k.output.trans h.output, Nat.le_trans h.size k.size, fun i hi hs => (k.block i (Nat.lt_of_lt_of_le hi h.size) hs).trans (h.block i hi hs)⟩
theorem Only.mono {S T : Nat → Prop} {a b : World} (h : Only S a b) (hs : ∀ k, k < a.heap.size → S k → T k) : Only T a b :=
  ⟨h.os, h.tape, h.output, h.size, fun i hi ht => h.block i hi (fun s => ht (hs i hi s))⟩
theorem Only.drew {S : Nat → Prop} {a w : World} (h : Only S a w) : Only S a w.drew := ⟨h.os, h.tape, h.output, h.size, h.block⟩
theorem Only.drewN {S : Nat → Prop} {a w : World} (h : Only S a w) (n : Nat) : Only S a (w.drewN n) := ⟨h.os, h.tape, h.output, h.size, h.block⟩
theorem Only.alloc {S : Nat → Prop} {a w : World} (h : Only S a w) (o : Obj) : Only S a (w.alloc o) :=
  h.trans ⟨rfl, rfl, rfl, by simp, fun k hk _ => Below.heap_alloc _ _ _ hk⟩
theorem Only.setCell {S : Nat → Prop} {a w : World} (h : Only S a w) {p : Addr} (hp : S p.block) (u : Value) : Only S a (w.setCell p u) :=
  h.trans ⟨rfl, rfl, rfl, by simp [World.setCell], fun k _ hs => Below.heap_setCell _ _ _ _ (fun e => hs (e ▸ hp))⟩
theorem Only.put {p : Nat} {a w : World} (h : Only (· = p) a w) (o : Nat) (u : Value) : Only (· = p) a (w.setCell ⟨p, o, none⟩ u) := h.setCell (S := (· = p)) rfl u
theorem Only.setCell_new {S : Nat → Prop} {a w : World} (h : Only S a w) {p : Addr} (hp : a.heap.size ≤ p.block) (u : Value) : Only S a (w.setCell p u) :=
  ⟨h.os, h.tape, h.output, by simp [World.setCell]; exact h.size, fun k hk hs => (Below.heap_setCell _ _ _ _ (by omega)).trans (h.block k hk hs)⟩
theorem Only.grown {S : Nat → Prop} {a w w' : World} {row : Option Nat} (h : Only S a w) (hg : w.grownBy w' row) (hr : ∀ k, row = some k → S k ∨ a.heap.size ≤ k) : Only S a w' :=
  ⟨hg.os.trans h.os, hg.tape.trans h.tape, hg.output.trans h.output, Nat.le_trans h.size hg.size, fun k hk hs => by
    have := h.size
    refine (hg.block k (by omega) (fun e => ?_)).trans (h.block k hk hs)
    rcases hr k e.symm with h' | h'
    · exact hs h'
    · omega⟩
theorem Only.below {S : Nat → Prop} {a w w' : World} {B : Nat} (h : Below B a w) (hw : B ≤ w.heap.size) (k : Only S w w') (hs : ∀ i, S i → B ≤ i) : Below B a w' :=
  h.trans ⟨k.os, k.tape, k.output, k.size, fun i hi => k.block i (by omega) (fun s => by have := hs i s; omega)⟩
theorem Only.cell {S : Nat → Prop} {w w' : World} (h : Only S w w') {p : Addr} (hp : p.block < w.heap.size) (hs : ¬ S p.block) : w'.cell? p = w.cell? p := World.cell?_of_block (w := w) (h.block p.block hp hs)

theorem heap_alloc_size (w : World) (o : Obj) : (w.alloc o).heap.size = w.heap.size + 1 := by simp
theorem lt_of_heap {w : World} {k : Nat} {o : Obj} (h : w.heap[k]? = some o) : k < w.heap.size := by
  rcases Nat.lt_or_ge k w.heap.size with h' | h'
  · exact h'
  · simp [Array.getElem?_eq_none h'] at h
theorem Only.keeps {S : Nat → Prop} {w w' : World} (h : Only S w w') {k : Nat} {o : Obj} (hk : w.heap[k]? = some o) (hs : ¬ S k) : w'.heap[k]? = some o :=
  (h.block k (lt_of_heap hk) hs).trans hk

theorem cellOf {w : World} {p : Nat} {cs : Array Value} {t : TypeId} {z : Nat × Nat} (h : w.heap[p]? = some (.cells cs t z)) (o : Nat) :
    w.cell? ⟨p, o, none⟩ = cs[o]? := by
  simp [World.cell?, h]
theorem freeOf {w : World} {p : Nat} {cs : Array Value} {t : TypeId} (h : w.heap[p]? = some (.cells cs t (0, 0))) (o : Nat) :
    w.frozen? ⟨p, o, none⟩ = false := by
  simp [World.frozen?, h]

/-! Maps keyed by ints. -/
def intKeys (es : List MapEntry) : Prop := ∀ e, e ∈ es → ∃ n, e.key = .int .i64 n
def keyIs (k : Int) : Value → Bool
  | .int _ n => n == k
  | _ => false
def lookI : List MapEntry → Int → Option Value
  | [], _ => none
  | e :: es, k => if keyIs k e.key then some e.val else lookI es k

theorem findNow_look (k : Int) : ∀ (es : List MapEntry), intKeys es → ∀ i : Nat,
    (lookI es k = none ∧ Instr.findNow (.int .i64) (.int .i64 k) es i = some none) ∨
    ∃ j v, Instr.findNow (.int .i64) (.int .i64 k) es i = some (some (i + j, v)) ∧ lookI es k = some v ∧ j < es.length ∧ ((es[j]?).map (·.key) = some (.int .i64 k)) ∧
      ∀ v', intKeys (es.modify j fun e => { e with key := .int .i64 k, val := v' }) ∧ ∀ n, lookI (es.modify j fun e => { e with key := .int .i64 k, val := v' }) n = if n = k then some v' else lookI es n
  | [], _, i => .inl ⟨rfl, rfl⟩
  | e :: es, h, i => by
    obtain ⟨n, hn⟩ := h e (by simp)
    have h' : intKeys es := fun x hx => h x (by simp [hx])
    by_cases hk : n = k
    · right
      refine ⟨0, e.val, ?_, ?_, by simp, by simp [hn, hk], fun v' => ⟨?_, fun m => ?_⟩⟩
      · simp [Instr.findNow, Instr.sameNow, hn, hk]
      · simp [lookI, keyIs, hn, hk]
      · intro x hx
        simp at hx
        rcases hx with rfl | hx
        · exact ⟨k, rfl⟩
        · exact h' x hx
      · simp only [List.modify_zero_cons, lookI, keyIs, hn, hk]
        by_cases hm : m = k
        · simp [hm]
        · have : (k == m) = false := by simp; omega
          simp [hm, this]
    · have hne : (k == n) = false := by simp; omega
      have hne' : (n == k) = false := by simp [hk]
      rcases findNow_look k es h' (i + 1) with ⟨h1, h2⟩ | ⟨j, v, h1, h2, h3, h4, h5⟩
      · left
        exact ⟨by simp [lookI, keyIs, hn, hne', h1], by simp [Instr.findNow, Instr.sameNow, hn, hne, h2]⟩
      · right
        refine ⟨j + 1, v, ?_, ?_, by simp; omega, by simpa using h4, fun v' => ⟨?_, fun m => ?_⟩⟩
        · simp [Instr.findNow, Instr.sameNow, hn, hne, h1]; omega
        · simp [lookI, keyIs, hn, hne', h2]
        · intro x hx
          simp only [List.modify_succ_cons, List.mem_cons] at hx
          rcases hx with rfl | hx
          · exact ⟨n, hn⟩
          · exact (h5 v').1 x hx
        · simp only [List.modify_succ_cons, lookI, (h5 v').2 m, keyIs, hn]
          by_cases hm : n = m
          · have : ¬ m = k := by omega
            simp [hm, this]
          · simp [hm]

theorem run_checkKey_int (P : Program) (w : World) (b : Bool) (K : TypeId) (hK : P.underlying K = some (.int .i64)) (v : Value) : (Instr.checkKey b 10000 K v).run P w = .ok () w := by
  rw [Instr.checkKey]
  simp [run_underlying hK w]

theorem run_lookup_int {P : Program} {w : World} {T K E : TypeId} {r : Nat} {es : Array MapEntry} {clock : Nat} {z : Value} (hT : P.underlying T = some (.map K E)) (hK : P.underlying K = some (.int .i64))
    (hz : (zeroValue E).run P w = .ok z w) (hb : w.heap[r]? = some (.map es clock)) (hk : intKeys es.toList) (k : Int) (ok : Bool) :
    (Instr.lookup T (.map (some r)) (.int .i64 k) ok).run P w = .ok (if ok then .tuple #[(lookI es.toList k).getD z, .bool (lookI es.toList k).isSome] else (lookI es.toList k).getD z) w := by
  have hg : (getObj r).run P w = .ok (.map es clock) w := by simp [getObj, Sem.run, hb]
  rcases findNow_look k es.toList hk 0 with ⟨h1, h2⟩ | ⟨j, v, h1, h2, h3, h4, h5⟩
  · simp [Instr.lookup, Sem.run_bind, run_underlying hT w, hg, run_checkKey_int P w _ K hK, Instr.findKey, run_underlying hK w, h2, hz, h1]
  · simp [Instr.lookup, Sem.run_bind, run_underlying hT w, hg, run_checkKey_int P w _ K hK, Instr.findKey, run_underlying hK w, h1, h2]

theorem run_mapUpdate_int {P : Program} {w : World} {T K E : TypeId} {r : Nat} {es : Array MapEntry} {clock : Nat} (hT : P.underlying T = some (.map K E)) (hK : P.underlying K = some (.int .i64))
    (hb : w.heap[r]? = some (.map es clock)) (hk : intKeys es.toList) (k : Int) (v : Value) :
    ∃ es' clock' w', (Instr.mapUpdate T (.map (some r)) (.int .i64 k) v).run P w = .ok () w' ∧ Only (· = r) w w' ∧ w'.heap.size = w.heap.size ∧ w'.heap[r]? = some (.map es' clock') ∧ intKeys es'.toList ∧
      ∀ n, lookI es'.toList n = if n = k then some v else lookI es.toList n := by
  have hg : (getObj r).run P w = .ok (.map es clock) w := by simp [getObj, Sem.run, hb]
  have hset : ∀ o, (setObj r o).run P w = .ok () { w with heap := w.heap.setIfInBounds r o } := fun o => by simp [setObj, Sem.run, hb]
  have hr := lt_of_heap hb
  have honly : ∀ o, Only (· = r) w { w with heap := w.heap.setIfInBounds r o } := fun o =>
    ⟨rfl, rfl, rfl, by simp, fun i _ hs => by rw [Array.getElem?_setIfInBounds]; rw [if_neg (fun e => hs e.symm)]⟩
  have hat : ∀ o, (w.heap.setIfInBounds r o)[r]? = some o := fun o => by simp [hr]
  rcases findNow_look k es.toList hk 0 with ⟨h1, h2⟩ | ⟨j, v0, h1, h2, h3, h4, h5⟩
  · refine ⟨es.push { key := .int .i64 k, val := v, born := clock }, clock + 1, _, ?_, honly _, by simp, hat _, ?_, fun n => ?_⟩
    · simp [Instr.mapUpdate, Sem.run_bind, run_underlying hT w, hg, run_checkKey_int P w _ K hK, Instr.findKey, run_underlying hK w, h2, hset]
    · intro x hx
      simp at hx
      rcases hx with hx | rfl
      · exact hk x (by simpa using hx)
      · exact ⟨k, rfl⟩
    · have happ : ∀ (l : List MapEntry) (x : MapEntry) n, lookI (l ++ [x]) n = match lookI l n with | some y => some y | none => lookI [x] n := by
        intro l x n
        induction l with
        | nil => rfl
        | cons e l ih =>
          simp only [List.cons_append, lookI]
          split
          · rfl
          · exact ih
      rw [Array.toList_push, happ]
      by_cases hn : n = k
      · subst hn; rw [h1]; simp [lookI, keyIs]
      · have : (k == n) = false := by simp; omega
        simp only [hn, if_false, lookI, keyIs, this]
        cases lookI es.toList n <;> simp
  · obtain ⟨h5a, h5b⟩ := h5 v
    have h3' : j < es.size := by simpa using h3
    have hkey : es[j].key = .int .i64 k := by
      have := h4
      simp [h3'] at this
      exact this
    have hmod : (es.modify j fun e => { e with key := .int .i64 k, val := v }).toList = es.toList.modify j fun e => { e with key := .int .i64 k, val := v } := by simp
    refine ⟨es.modify j fun e => { e with key := .int .i64 k, val := v }, clock, _, ?_, honly _, by simp, hat _, ?_, fun n => ?_⟩
    · simp [Instr.mapUpdate, Sem.run_bind, run_underlying hT w, hg, run_checkKey_int P w _ K hK, Instr.findKey, run_underlying hK w, h1, hset, h3', hkey, Instr.keyThatStays, Instr.sameBits]
    · rw [hmod]; exact h5a
    · rw [hmod]; exact h5b n

section
variable {P : Program} {ops : Array Oper} {rest : List Oper} {o : Oper} {a : Act} {Q : Exit → Act → World → Prop}
/-- 'm[k] = v' at a map keyed by ints. -/
theorem wpList_mapUpdate_int (w : World) (hg : o.guard = none) (m x v : Operand) (T : TypeId) (hop : o.op = Op.mapUpdate T m x v) (K E : TypeId) (hT : P.underlying T = some (.map K E)) (hK : P.underlying K = some (.int .i64))
    (r : Nat) (es : Array MapEntry) (clock : Nat) (hm : a.eval m = .map (some r)) (hb : w.heap[r]? = some (.map es clock)) (hk : intKeys es.toList) (k : Int) (val : Value) (hx : a.eval x = .int .i64 k) (hv : a.eval v = val)
    (h : ∀ es' clock' w', Only (· = r) w w' → w'.heap.size = w.heap.size → w'.heap[r]? = some (.map es' clock') → intKeys es'.toList → (∀ n, lookI es'.toList n = if n = k then some val else lookI es.toList n) → wpList P ops Q rest (a.put o.dst undef) w') :
    wpList P ops Q (o :: rest) a w := by
  refine wpList_plain hg fun K' hK' => ?_
  obtain ⟨es', clock', w', hrun, r1, r2, r3, r4, r5⟩ := run_mapUpdate_int hT hK hb hk k val
  unfold Oper.wp
  simp [execOp, hop, hm, hx, hv, hrun, Result.andThen]
  exact hK' _ _ (h es' clock' w' r1 r2 r3 r4 r5)
end

/-! Rows of bytes. -/
def bv (b : UInt8) : Value := .int .u8 (b.toNat : Int)
def bvs (l : List UInt8) : Array Value := (l.map bv).toArray
theorem bvs_size (l : List UInt8) : (bvs l).size = l.length := by simp [bvs]
theorem bvs_get (l : List UInt8) (i : Nat) : (bvs l)[i]? = (l[i]?).map bv := by simp [bvs]

theorem bvs_append (l m : List UInt8) : bvs (l ++ m) = bvs l ++ bvs m := by simp [bvs]
theorem bvs_set (l : List UInt8) (i : Nat) (b : UInt8) : (bvs l).setIfInBounds i (bv b) = bvs (l.set i b) := by
  simp [bvs, List.map_set]

section
variable {P : Program}
/-- A region that draws, all of whose operations but the tail from n on read alone ('w.drew' named). -/
theorem wp_region_tail {id : Nat} {Q : Exit → Act → World → Prop} {a : Act} {w : World} {l : List Oper} (n : Nat) (hm : P.follows .mixedOrders = true) (hB : Region.lexTailB .any l.toArray n = true)
    (h : wpStill P l.toArray w.drew (fun a' => wpList P l.toArray Q (l.drop n) a' w.drew) (l.take n) a) : (Code.region id l.toArray true).wp P Q a w :=
  wp_region_still_tail n hm hB h
end

/-- A row of bytes at an address: what a slice of them shows. -/
def RowAt (w : World) (a : Addr) (l : List UInt8) : Prop := ∀ i b, l[i]? = some b → w.cell? (a.add i) = some (bv b)

theorem add_block (a : Addr) (n : Nat) : (a.add n).block = a.block := by unfold Addr.add; split <;> rfl

theorem RowAt.only {S : Nat → Prop} {w w' : World} {a : Addr} {l : List UInt8} (h : RowAt w a l) (k : Only S w w') (hs : ¬ S a.block) (hb : a.block < w.heap.size) : RowAt w' a l := fun i b e => by
  rw [k.cell (p := a.add i) (by rw [add_block]; exact hb) (by rw [add_block]; exact hs)]
  exact h i b e

theorem RowAt.lt {w : World} {a : Addr} {l : List UInt8} (h : RowAt w a l) (hl : 0 < l.length) : a.block < w.heap.size := by
  have := h 0 l[0] (by simp)
  have h2 := block_lt_of_cell this
  rwa [add_block] at h2

theorem RowAt.of_cells {w : World} {b : Nat} {l : List UInt8} {t : TypeId} {z : Nat × Nat} (h : w.heap[b]? = some (.cells (bvs l) t z)) : RowAt w ⟨b, 0, none⟩ l := fun i x e => by
  have hadd : (⟨b, 0, none⟩ : Addr).add i = ⟨b, i, none⟩ := by unfold Addr.add; split <;> simp_all
  rw [hadd, cellOf h, bvs_get, e]
  rfl

theorem setRow_new (w : World) (o c : Array Value) (t : TypeId) : (w.alloc (.cells o t)).setRow w.heap.size c = w.alloc (.cells c t) := by
  unfold World.setRow World.alloc
  congr 1
  apply Array.ext
  · simp
  · intro k h1 h2
    simp only [Array.getElem_modify]
    simp only [Array.size_push] at h2
    by_cases hk : w.heap.size = k
    · subst hk; simp
    · rw [if_neg hk, Array.getElem_push_lt (by omega), Array.getElem_push_lt (by omega)]

theorem bvs_oneCell (l : List UInt8) : ∀ v ∈ (bvs l).toList, v.oneCell' = true := by
  intro v hv
  simp [bvs] at hv
  obtain ⟨b, _, rfl⟩ := hv
  rfl

theorem run_storeCells_new (P : Program) (w : World) (o : Array Value) (l : List UInt8) (t : TypeId) (hl : o.size = l.length) :
    (storeCells ⟨w.heap.size, 0, none⟩ (bvs l).toList).run P (w.alloc (.cells o t)) = .ok () (w.alloc (.cells (bvs l) t)) := by
  have := run_storeCells_from (P := P) w.heap.size t (bvs l).toList 0 o (w.alloc (.cells o t)) (heap_alloc_new _ _) (by simp [bvs_size, hl]) (bvs_oneCell l)
  rw [this]
  simp [setRow_new]

/-- The first k of n bytes are c, the others 0. -/
def fillTo (c : UInt8) (n k : Nat) : List UInt8 := List.replicate k c ++ List.replicate (n - k) 0
theorem fillTo_zero (c : UInt8) (n : Nat) : fillTo c n 0 = List.replicate n 0 := by simp [fillTo]
theorem fillTo_all (c : UInt8) (n : Nat) : fillTo c n n = List.replicate n c := by simp [fillTo]
theorem fillTo_length (c : UInt8) (n k : Nat) (h : k ≤ n) : (fillTo c n k).length = n := by simp [fillTo]; omega
theorem fillTo_get (c : UInt8) (n k : Nat) (h : k < n) : (fillTo c n k)[k]? = some 0 := by
  unfold fillTo
  rw [List.getElem?_append_right (by simp), List.length_replicate, Nat.sub_self, List.getElem?_replicate, if_pos (by omega)]
theorem fillTo_set (c : UInt8) (n k : Nat) (h : k < n) : (fillTo c n k).set k c = fillTo c n (k + 1) := by
  unfold fillTo
  rw [List.set_append_right _ _ (by simp)]
  obtain ⟨d, hd⟩ : ∃ d, n - k = d + 1 := ⟨n - k - 1, by omega⟩
  have hd' : n - (k + 1) = d := by omega
  rw [hd, hd']
  simp [List.replicate_succ, List.set_cons_zero]
  rw [show List.replicate k c ++ c :: List.replicate d (0 : UInt8) = (List.replicate k c ++ [c]) ++ List.replicate d 0 by simp, ← List.replicate_succ', List.replicate_succ]
  simp

/-! Bytes as a string. -/
def strOf (l : List UInt8) : ByteArray := ⟨l.toArray⟩
@[simp, go_sem] theorem strOf_toList (l : List UInt8) : (strOf l).toList = l := ByteArray.toList_mk l
theorem strOf_size (l : List UInt8) : (strOf l).size = l.length := by simp [strOf, ByteArray.size]
theorem strOf_inj {a b : List UInt8} (h : strOf a = strOf b) : a = b := by
  have := congrArg ByteArray.toList h
  simpa using this

theorem push_bytes : ∀ (l : List UInt8) (s : List UInt8), (l.map fun b => (b.toNat : Int)).foldl (fun r n => ByteArray.push r (UInt8.ofNat n.toNat)) (strOf s) = strOf (s ++ l)
  | [], s => by simp
  | b :: l, s => by
    have : ByteArray.push (strOf s) b = strOf (s ++ [b]) := by simp [strOf, ByteArray.push]
    simp [this, push_bytes l]

theorem run_convert_row {P : Program} {w : World} {T E S : TypeId} (hT : P.underlying T = some (.slice E)) (hE : P.underlying E = some (.int .u8)) (hS : P.underlying S = some .string)
    {ad : Addr} {l : List UInt8} (n c : Nat) (hn : l.length = n) (h : RowAt w ad l) : (convert T S (.slice (some ad) n c)).run P w = .ok (.string (strOf l)) w := by
  rw [run_convert_bytes_string w T S E _ _ _ hT hE hS, run_bytesToString w ad n c (l.map fun b => (b.toNat : Int))]
  · have := push_bytes l []
    simp only [List.nil_append] at this
    rw [← this]
    rfl
  · have h1 := run_loadCells_list (P := P) w ad (l.map bv) (fun j v hv => by
      rw [List.getElem?_map] at hv
      cases e : l[j]? with
      | none => rw [e] at hv; cases hv
      | some b => rw [e] at hv; cases hv; exact h j b e)
    simp only [List.length_map, hn] at h1
    rw [h1]
    simp [bv]
end Go.Proofs.YtiobdnnijbfdhaaDoor
