/- slices.Max of the depths; syntax.Parse. -/
import Derived.Test.YtoggcdldoinbnaaSynG
import Derived.Deep.RegionHeldLaw
import Derived.RegionTactic
namespace Go.Proofs.Ytoggcdldoinbnaa

section
open Go.RowKit
open syn (Tok Nd PS)
set_option linter.unusedVariables false
set_option linter.unusedSimpArgs false

section
variable {F : Nat → Prop} {lo : Nat} {w0 : World} {a : Option Addr} {l : List Tok} {c pb : Nat} {w w' : World} {nv dv nv' dv' : Value} {s : PS}
set_option maxRecDepth 20000 in
set_option maxHeartbeats 2000000 in
theorem max_calls (h : St F lo w0 a l c pb w nv dv s) (hd : 0 < s.d.length) : Calls Try.prog 10 #[dv] w fun e w' => e = .returned (natV (syn.most s.d)) ∧ w' = w := by
  obtain ⟨g, cap, rfl, hc0⟩ := h.depth_cell 0 hd
  have hcs : ∀ k, k < s.d.length → w.cell? ⟨g, k, none⟩ = some (natV (s.d.getD k 0)) := by
    intro k hk
    obtain ⟨g2, cap2, e, hc⟩ := h.depth_cell k hk
    cases e
    exact hc
  have HC := Lib.hid hcs
  have hsm := h.small
  have hfew := h.few
  have hpos := h.pos
  have hsame := h.same
  have HD := Lib.hid h.deep
  have hdi : ¬ ((s.d.length : Int) < 1) := by omega
  obtain ⟨x0, hx0⟩ : ∃ x, x = s.d.getD 0 0 := ⟨_, rfl⟩
  rw [← hx0] at hc0
  have h1 : (s.d.take 1).foldl max 0 = x0 := by
    rw [hx0]
    cases hs : s.d with
    | nil => rw [hs] at hd; simp at hd
    | cons y ys => simp
  have H1 := Lib.hid h1
  clear h hcs h1 hx0
  go_enter Try.func10, Try.ntmps10
  go_wp2_with fail
  go_loopw [3, 4] (fun d i wr => ∃ j : Nat, i = .int .i64 j ∧ 1 ≤ j ∧ j ≤ s.d.length ∧ wr = w ∧ d = natV ((s.d.take j).foldl max 0)) (fun _ i _ => s.d.length - (intOf i).toNat)
  case atStart => exact ⟨1, rfl, Nat.le_refl _, by omega, rfl, by rw [H1.out]⟩
  case round =>
    obtain ⟨j, rfl, hj1, hj, rfl, rfl⟩ := hrel
    by_cases hjl : j < s.d.length
    · have hji : (j : Int) < (s.d.length : Int) := by omega
      have hc := HC.out j hjl
      obtain ⟨x, hx⟩ : ∃ x, x = s.d.getD j 0 := ⟨_, rfl⟩
      obtain ⟨dj, hdj⟩ : ∃ y, y = (s.d.take j).foldl max 0 := ⟨_, rfl⟩
      have hnext : (s.d.take (j + 1)).foldl max 0 = max dj x := by
        rw [List.take_add_one, List.getElem?_eq_getElem hjl, List.foldl_append, ← hdj, hx, List.getD_eq_getElem?_getD, List.getElem?_eq_getElem hjl]
        rfl
      have HN := Lib.hid hnext
      rw [← hx] at hc
      rw [← hdj]
      clear hx hdj hnext
      unfold natV at hc ⊢
      go_wp2_with fail
      go_roundw
      case rel => exact ⟨j + 1, by go_num, by omega, by omega, by first | rfl | trivial, by rw [HN.out]; first | rfl | (congr 1; omega)⟩
      case measure => first | (simp only [intOf]; omega) | (go_simp; omega) | omega
    · have hji : ¬ (j : Int) < (s.d.length : Int) := by omega
      have he : (s.d.take j).foldl max 0 = syn.most s.d := by rw [List.take_of_length_le (by omega)]; rfl
      rw [he]
      go_wp2_with fail
      go_ret
      exact ⟨rfl, rfl⟩
end
end

section
open Go.RowKit
open syn (Tok Nd PS)
set_option linter.unusedVariables false
set_option linter.unusedSimpArgs false

section
variable {lo : Nat} {a : Option Addr} {l : List Tok} {c : Nat} {w w' : World}
/-- The tree lies in memory. -/
def TreeAt (lo : Nat) (w : World) (nv : Value) (n : List Nd) : Prop := ∃ kv dv, n.length = kv.length ∧ w.ownsRow lo 33 3 nv n.length (nodeVals n kv) ∧ ∀ (i : Nat) nd v, n[i]? = some nd → kv[i]? = some v → KidsOk (fun _ => False) lo w dv v nd.kids
theorem TreeAt.nil (lo : Nat) (w : World) : TreeAt lo w (.slice none 0 0) [] := ⟨[], .slice none 0 0, rfl, World.ownsRow_nil w lo _ _, fun i nd v h => by simp at h⟩
theorem TreeAt.keep {nv : Value} {n : List Nd} (h : TreeAt lo w nv n) {b : Nat} {cs : Array Value} {t : TypeId} {z : Nat × Nat} (hb : w.heap[b]? = some (.cells cs t z)) (ht : t ≠ 33 ∧ t ≠ 3) (o : Only (fun q => q = b) w w') : TreeAt lo w' nv n := by
  obtain ⟨kv, dv, h1, h2, h3⟩ := h
  refine ⟨kv, dv, h1, own_keep h2 o (fun q e e2 => ?_), fun i nd v hi hv => ?_⟩
  · subst e2
    obtain ⟨c5, z5, h5⟩ := Lib.ownsRow_kind h2 q e
    exact ht.1 (two_ty hb h5)
  · rcases h3 i nd v hi hv with h6 | ⟨g, cc, cur, e, h7, h8, h9, h10, h11⟩
    · exact .inl h6
    · refine .inr ⟨g, cc, cur, e, h7, o.keeps h8 (fun e2 => ?_), h9, h10, h11⟩
      subst e2
      exact ht.2 (two_ty hb h8)
/-- A new parser. -/
theorem start_ (hw : WordsAt lo w a l) (hlo : lo = w.heap.size) (hf : l.length ≤ 4096) {w1 : World} (o : Only (fun _ => False) w w1) {pb : Nat} (hpb : lo ≤ pb) (hc : w1.heap[pb]? = some (.cells #[.slice a l.length c, .int .i64 0, .slice none 0 0, .slice none 0 0] 40 (0, 0))) :
    St (fun _ => False) lo w a l c pb w1 (.slice none 0 0) (.slice none 0 0) syn.start := by
  subst hlo
  exact ⟨o.below (Below.refl _ w) (Nat.le_refl _) (fun _ e => e.elim), o.size, hpb, hw, hf, hc, Nat.zero_le _, ⟨[], rfl, World.ownsRow_nil _ _ _ _, fun i nd v h => by simp [syn.start] at h⟩, World.ownsRow_nil _ _ _ _, rfl, by simp [syn.start], fun x hx => by simp [syn.start] at hx, fun q e => e.elim⟩
set_option maxRecDepth 20000 in
set_option maxHeartbeats 2000000 in
theorem parse_calls {K : Nat} (hK : l.length < K) (hw : WordsAt lo w a l) (hlo : lo = w.heap.size) (hll : l.length ≤ 9223372036854775807) :
    Calls Try.prog 7 #[.slice a l.length c] w fun e w' => ∃ nv, e = .returned (.tuple #[.agg #[nv], .int .i64 (syn.parse K K l).2.1, .int .i64 (syn.parse K K l).2.2]) ∧ TreeAt lo w' nv (syn.parse K K l).1 ∧ Only (fun _ => False) w w' := by
  by_cases hbig : 4096 < l.length
  · have hbi : (4096 : Int) < (l.length : Int) := by omega
    have hp : syn.parse K K l = ([], 0, 5) := by unfold syn.parse; rw [if_pos hbig]
    rw [hp]
    go_enter Try.func7, Try.ntmps7
    go_wp2_with fail
    refine ⟨rfl, _, by simp [results, Try.results7, go_sem], _, rfl, TreeAt.nil _ _, ?_⟩
    exact (Only.refl _ w).alloc _
  · have hbi : ¬ (4096 : Int) < (l.length : Int) := by omega
    have hsm : l.length ≤ 4096 := by omega
    go_enter Try.func7, Try.ntmps7
    go_wp2_with fail
    have o1 := ((Only.refl (fun _ => False) w).alloc (.cells #[.slice none 0 0] 25)).alloc (.cells #[.slice a l.length c, .int .i64 0, .slice none 0 0, .slice none 0 0] 40)
    have hb1 : ((w.alloc (.cells #[.slice none 0 0] 25)).alloc (.cells #[.slice a l.length c, .int .i64 0, .slice none 0 0, .slice none 0 0] 40)).heap[w.heap.size + 1]? = some (.cells #[.slice a l.length c, .int .i64 0, .slice none 0 0, .slice none 0 0] 40 (0, 0)) := by
      have := heap_alloc_new (w.alloc (.cells #[.slice none 0 0] 25)) (.cells #[.slice a l.length c, .int .i64 0, .slice none 0 0, .slice none 0 0] 40)
      simpa using this
    have hb0 : ((w.alloc (.cells #[.slice none 0 0] 25)).alloc (.cells #[.slice a l.length c, .int .i64 0, .slice none 0 0, .slice none 0 0] 40)).heap[w.heap.size]? = some (.cells #[.slice none 0 0] 25 (0, 0)) := by
      rw [heap_alloc_old _ _ (by simp)]
      exact heap_alloc_new w _
    have h0 := start_ hw hlo hsm o1 (pb := w.heap.size + 1) (by omega) hb1
    refine (all_calls hK h0 (by simp [syn.start])).mono ?_
    rintro e w9 ⟨nv9, dv9, s9, o9, hs9, hr9⟩
    have hk9 := o9.keeps hb0 (fun e => by rcases e with e | e | e; (omega); (cases e); (cases e))
    have hon9 : Only (fun _ => False) w w9 := ⟨o9.os.trans o1.os, o9.tape.trans o1.tape, o9.output.trans o1.output, Nat.le_trans o1.size o9.size, fun i hi _ => (o9.block i (by have := o1.size; omega) (fun e => by rcases e with e | e | e; (omega); (cases e); (cases e))).trans (o1.block i hi (fun e => e))⟩
    have S9 := Lib.hid hs9
    have K9 := Lib.hid hk9
    have O9 := Lib.hid hon9
    clear hs9 hk9 hon9 o9 h0 hb0 hb1 o1 hw
    cases hp : syn.all K K l syn.start with
    | bad q =>
      rw [hp] at hr9
      obtain ⟨rfl, hq⟩ := hr9
      go_wp2_with fail
      subst hq
      have HPW := Lib.hid (show syn.parse K K l = ([], s9.at_, 120) by unfold syn.parse; rw [if_neg hbig, hp])
      clear hp
      have f1 := S9.out.f1
      have hc0 : w9.cell? ⟨w.heap.size, 0, none⟩ = some (.slice none 0 0) := (cellOf K9.out 0).trans rfl
      have hz0 : w9.frozen? ⟨w.heap.size, 0, none⟩ = false := freeOf K9.out 0
      go_region
      go_wp2_with fail
      have hcell := World.cell?_setCell_same w9 ⟨w.heap.size, 0, none⟩ (.slice none 0 0) hc0
      rw [HPW.out]
      refine ⟨rfl, _, by simp [results, Try.results7, go_sem, hcell], _, rfl, TreeAt.nil _ _, ?_⟩
      first | exact O9.out.setCell_new (Nat.le_refl _) _ | exact (O9.out.drewN _).setCell_new (Nat.le_refl _) _ | exact O9.out.drew.setCell_new (Nat.le_refl _) _ | exact (O9.out.setCell_new (p := ⟨w.heap.size, 0, none⟩) (Nat.le_refl _) _).drew | exact (O9.out.setCell_new (p := ⟨w.heap.size, 0, none⟩) (Nat.le_refl _) _).drewN _
    | ok x s2 =>
      rw [hp] at hr9
      obtain ⟨rfl, rfl⟩ := hr9
      have hn0 : 0 < s9.n.length := by
        have hq := hp
        unfold syn.all syn.Pr.bind syn.node at hq
        split at hq
        · cases hq
          simp
        · cases hq
      obtain ⟨kv, hkl, hnown, hkids⟩ := S9.out.nodes
      obtain ⟨gn, cn, rfl⟩ := Joins.ownsRow_form hnown hn0
      have hsame := S9.out.same
      have f2 := S9.out.f2
      have f3 := S9.out.f3
      have hc0 : w9.cell? ⟨w.heap.size, 0, none⟩ = some (.slice none 0 0) := (cellOf K9.out 0).trans rfl
      have hz0 : w9.frozen? ⟨w.heap.size, 0, none⟩ = false := freeOf K9.out 0
      have hpv : syn.parse K K l = if 1024 < s9.n.length ∨ 32 < syn.most s9.d then ([], 0, 5) else (s9.n, 0, 0) := by unfold syn.parse; rw [if_neg hbig, hp]
      have HPV := Lib.hid hpv
      have HT := Lib.hid (show TreeAt lo w9 _ s9.n from ⟨kv, dv9, hkl, hnown, hkids⟩)
      have HM := Lib.hid (max_calls S9.out (by omega))
      have hsmall := S9.out.small
      have hpos9 := S9.out.pos
      clear hnown hkids hpv hp
      by_cases hn : 1024 < s9.n.length
      · have hni : (1024 : Int) < (s9.n.length : Int) := by omega
        have HPW := Lib.hid (HPV.out.trans (if_pos (Or.inl hn)))
        clear HPV
        go_wp2_with fail
        have hcell := World.cell?_setCell_same w9 ⟨w.heap.size, 0, none⟩ (.slice none 0 0) hc0
        rw [HPW.out]
        refine ⟨rfl, _, by simp [results, Try.results7, go_sem, hcell], _, rfl, TreeAt.nil _ _, O9.out.setCell_new (Nat.le_refl _) _⟩
      · have hni : ¬ (1024 : Int) < (s9.n.length : Int) := by omega
        go_wp2_with fail
        refine HM.out.mono ?_
        rintro e w10 ⟨rfl, rfl⟩
        by_cases hm : 32 < syn.most s9.d
        · have hmi : (32 : Int) < (syn.most s9.d : Int) := by omega
          have HPW := Lib.hid (HPV.out.trans (if_pos (Or.inr hm)))
          clear HPV
          unfold natV
          go_wp2_with fail
          have hcell := World.cell?_setCell_same w10 ⟨w.heap.size, 0, none⟩ (.slice none 0 0) hc0
          rw [HPW.out]
          refine ⟨rfl, _, by simp [results, Try.results7, go_sem, hcell], _, rfl, TreeAt.nil _ _, O9.out.setCell_new (Nat.le_refl _) _⟩
        · have hmi : ¬ (32 : Int) < (syn.most s9.d : Int) := by omega
          have HPW := Lib.hid (HPV.out.trans (if_neg (by omega)))
          clear HPV
          unfold natV
          go_wp2_with fail
          have hcell := World.cell?_setCell_same w10 ⟨w.heap.size, 0, none⟩ (Value.slice (some ⟨gn, 0, none⟩) s9.n.length cn) hc0
          rw [HPW.out]
          have hcell2 := hcell
          rw [hkl] at hcell2
          refine ⟨rfl, .tuple #[.agg #[.slice (some ⟨gn, 0, none⟩) s9.n.length cn], .int .i64 ((0 : Nat) : Int), .int .i64 0], by rw [hkl] at hcell ⊢; simp [results, Try.results7, go_sem, hcell], _, rfl, ?_, O9.out.setCell_new (Nat.le_refl _) _⟩
          first | exact HT.out.keep K9.out (by decide) ((Only.refl (fun q => q = w.heap.size) w10).setCell (p := ⟨w.heap.size, 0, none⟩) rfl _) | (rw [← hkl]; exact HT.out.keep K9.out (by decide) ((Only.refl (fun q => q = w.heap.size) w10).setCell (p := ⟨w.heap.size, 0, none⟩) rfl _))
end
end
end Go.Proofs.Ytoggcdldoinbnaa
