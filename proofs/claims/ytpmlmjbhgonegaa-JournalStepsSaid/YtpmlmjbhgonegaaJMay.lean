/- Contract of the journal's may: are puts a group. -/
import Derived.Test.YtpmlmjbhgonegaaJFinish
namespace Go.Proofs.Ytpmlmjbhgonegaa
open Go.RowKit

/-- The cells of a slice of Put, in blocks that are not among T. -/
def PutsAt (T : Nat → Prop) (w : World) (x : Option Addr) (l : List (Int × List UInt8)) : Prop :=
  ∀ (i : Nat) (b : Int) (bs : List UInt8), l[i]? = some (b, bs) → ∃ ad a c, x = some ad ∧ w.cell? (ad.add (i * 2)) = some (.int .i64 b) ∧ w.cell? ⟨(ad.add (i * 2)).block, (ad.add (i * 2)).off + 1, none⟩ = some (.slice a bs.length c) ∧ SliceAt w a bs ∧ ¬ T ad.block ∧ ∀ s, a = some s → bs ≠ [] → ¬ T s.block

theorem PutsAt.only {T S : Nat → Prop} {w w' : World} {x : Option Addr} {l : List (Int × List UInt8)} (h : PutsAt T w x l) (k : Only S w w') (hs : ∀ i, S i → T i) : PutsAt T w' x l := by
  intro i b bs hi
  obtain ⟨ad, a, c, hx, c0, c1, hsl, ht, hta⟩ := h i b bs hi
  have hlt := block_lt_of_cell c0
  have hlt1 := block_lt_of_cell c1
  rw [add_block] at hlt
  refine ⟨ad, a, c, hx, ?_, ?_, ?_, ht, hta⟩
  · rw [k.cell (p := ad.add (i * 2)) (by rw [add_block]; exact hlt) (by rw [add_block]; exact fun e => ht (hs _ e))]; exact c0
  · rw [k.cell hlt1 (fun e => ht (hs _ (by simpa [add_block] using e)))]; exact c1
  · exact hsl.only k (fun s hss hl e => hta s hss hl (hs _ e))
theorem PutsAt.grow {T : Nat → Prop} {w w' : World} {x : Option Addr} {l : List (Int × List UInt8)} (h : PutsAt T w x l) (k : Only (fun _ => False) w w') : PutsAt T w' x l := h.only k (fun _ e => e.elim)

/-- May one more be put to a group of those. -/
def jMayOne (D : DK) (at_ : Int) (had : List Int) (b : Int) (n : Nat) : Bool := !(decide (b ∈ had) || decide (at_ ≤ b ∧ b < at_ + 199) || decide (b < 0) || decide (D.len ≤ b) || decide (n ≠ 64))
/-- Are the first k a group, but for their number. -/
def jMayTo (D : DK) (at_ : Int) (l : List (Int × List UInt8)) (k : Nat) : Bool := (List.range k).all fun i => jMayOne D at_ ((l.take i).map (·.1)) (l.getD i (0, [])).1 (l.getD i (0, [])).2.length
def jMay (D : DK) (at_ : Int) (l : List (Int × List UInt8)) : Bool := jMayTo D at_ l l.length && decide (l.length ≤ 192)

theorem jMayTo_step {D : DK} {at_ : Int} {l : List (Int × List UInt8)} {k : Nat} {b : Int} {bs : List UInt8} (hk : l[k]? = some (b, bs)) (h : jMayTo D at_ l k = true) :
    jMayTo D at_ l (k + 1) = jMayOne D at_ ((l.take k).map (·.1)) b bs.length := by
  unfold jMayTo at h ⊢
  rw [List.range_succ, List.all_append, h, Bool.true_and]
  simp [List.getD_eq_getElem?_getD, hk]
theorem jMayTo_not {D : DK} {at_ : Int} {l : List (Int × List UInt8)} {k : Nat} (hk : k ≤ l.length) (h : jMayTo D at_ l k = false) : jMay D at_ l = false := by
  unfold jMay
  have : jMayTo D at_ l l.length = false := by
    unfold jMayTo at h ⊢
    rw [List.all_eq_false] at h ⊢
    obtain ⟨x, hx, hb⟩ := h
    exact ⟨x, List.mem_range.2 (by have := List.mem_range.1 hx; omega), hb⟩
  rw [this]
  rfl

/-- The map of the blocks that were seen. -/
structure SeenAt (w : World) (mb : Nat) (had : List Int) : Prop where
  map : ∃ es clock, w.heap[mb]? = some (.map es clock) ∧ intKeys es.toList ∧ (∀ n, lookI es.toList n = none ↔ n ∉ had) ∧ ∀ n v, lookI es.toList n = some v → ∃ z, v = .int .i64 z

theorem Only.then_new {a b c : World} (h : Only (fun _ => False) a b) {m : Nat} (hm : a.heap.size ≤ m) (k : Only (· = m) b c) : Only (fun _ => False) a c :=
  ⟨k.os.trans h.os, k.tape.trans h.tape, k.output.trans h.output, Nat.le_trans h.size k.size, fun i hi _ => (k.block i (by have := h.size; omega) (by omega)).trans (h.block i hi (fun e => e))⟩

theorem seen_more {w : World} {mb : Nat} {l : List (Int × List UInt8)} {k : Nat} {b : Int} {bs : List UInt8} {es es' : Array MapEntry} {ck : Nat} (hb : l[k]? = some (b, bs)) (h1 : ∀ n, lookI es.toList n = none ↔ n ∉ (l.take k).map (·.1)) (h2 : ∀ n v, lookI es.toList n = some v → ∃ z, v = .int .i64 z)
    (g3 : w.heap[mb]? = some (.map es' ck)) (g4 : intKeys es'.toList) (g5 : ∀ n, lookI es'.toList n = if n = b then some (.int .i64 (k : Nat)) else lookI es.toList n) : SeenAt w mb ((l.take (k + 1)).map (·.1)) := by
  refine ⟨⟨es', ck, g3, g4, fun m => ?_, fun m v hv => ?_⟩⟩
  · rw [g5, List.take_add_one, hb]
    by_cases hm : m = b
    · simp [hm]
    · have := h1 m
      rw [if_neg hm, this]
      simp [hm]
  · rw [g5] at hv
    split at hv
    · exact ⟨_, (Option.some.inj hv).symm⟩
    · exact h2 m v hv

set_option maxRecDepth 100000 in
set_option maxHeartbeats 2000000 in
theorem may_calls {B : Nat} {w0 w : World} {p r : Nat} {D : DK} {jb : Nat} {at_ : Int} {g : Nat} (h : JSt B w0 w p r D jb at_ g) (ha : 0 ≤ at_) (ha2 : at_ + 199 ≤ D.len) (hl : D.len ≤ 4096) {T : Nat → Prop} (x : Option Addr) (l : List (Int × List UInt8)) (n c : Nat) (hn : n = l.length) (hmax : n ≤ 9223372036854775807) (hP : PutsAt T w x l) :
    Calls Try.prog 34 #[.pointer (some ⟨jb, 0, none⟩), .slice x n c] w fun e w' => e = .returned (.bool (jMay D at_ l)) ∧ Only (fun _ => False) w w' := by
  have J0 := Lib.hid h
  have HP := Lib.hid hP
  have HN := Lib.hid hn
  clear h hP hn
  have hw1 : IntKind.i64.wrap (at_ + 199) = at_ + 199 := IntWalk.i64_in _ (by omega)
  have W1 := Lib.hid hw1
  clear hw1
  have hmm : ∀ (t : TypeId) (w : World), (Instr.makeMap t none).run Try.prog w = .ok (.map (some w.heap.size)) (w.alloc (.map #[] 0)) := fun _ _ => rfl
  go_enter Try.func34, Try.ntmps34
  go_wp2_with fail
  go_loopw [14] (fun i wr => ∃ k : Nat, i = .int .i64 k ∧ k ≤ n ∧ Only (fun _ => False) w wr ∧ SeenAt wr w.heap.size ((l.take k).map (·.1)) ∧ jMayTo D at_ l k = true) (fun i _ => n - (intOf i).toNat)
  case atStart =>
    refine ⟨0, rfl, Nat.zero_le _, (Only.refl _ w).alloc _, ⟨⟨#[], 0, heap_alloc_new _ _, ?_, ?_, ?_⟩⟩, rfl⟩
    · intro e he; simp at he
    · intro m; simp [lookI]
    · intro m v hv; simp [lookI] at hv
  case round =>
    obtain ⟨k, rfl, hk, ho, hsn, hmt⟩ := hrel
    have O := Lib.hid ho
    have SN := Lib.hid hsn
    have MT := Lib.hid hmt
    clear ho hsn hmt
    by_cases hlt : k < n
    · obtain ⟨b, bs, hb⟩ : ∃ b bs, l[k]? = some (b, bs) := ⟨_, _, List.getElem?_eq_getElem (by have := HN.out; omega)⟩
      obtain ⟨ad, a, cc, rfl, c0, c1, hsl, -, -⟩ := (HP.out.grow O.out) k b bs hb
      have HB := Lib.hid hb
      clear hsl hb
      obtain ⟨nb, hnb⟩ : ∃ nb, nb = bs.length := ⟨_, rfl⟩
      rw [← hnb] at c1
      have HNB := Lib.hid hnb
      clear hnb
      obtain ⟨es, ck, hm, hik, hnone, hint⟩ := SN.out.map
      have hlook := run_lookup_int (z := .int .i64 0) Try.underlying81 Try.underlying3 (by kernel_rfl) (((Only.refl (fun _ => False) wr).alloc (.cells #[.int .i64 b, .slice a nb cc] 44)).keeps hm (fun e => e)) hik b true
      obtain ⟨z, hz⟩ : ∃ z, (lookI es.toList b).getD (.int .i64 0) = .int .i64 z := by
        cases e : lookI es.toList b with
        | none => exact ⟨0, rfl⟩
        | some v => obtain ⟨z, rfl⟩ := hint b v e; exact ⟨z, rfl⟩
      obtain ⟨tw, htw⟩ : ∃ tw, (lookI es.toList b).isSome = tw := ⟨_, rfl⟩
      have hmem : tw = decide (b ∈ (l.take k).map (·.1)) := by
        have h1 := hnone b
        by_cases hb : b ∈ (l.take k).map (·.1)
        · rw [decide_eq_true hb, ← htw]
          cases e : lookI es.toList b with
          | none => exact absurd hb (h1.1 e)
          | some v => rfl
        · rw [decide_eq_false hb, ← htw, h1.2 hb]; rfl
      rw [hz, htw] at hlook
      simp only [if_true] at hlook
      have HM := Lib.hid hmem
      have MP := Lib.hid hm
      have MK := Lib.hid hik
      have MN := Lib.hid hnone
      have MI := Lib.hid hint
      have cb : (wr.alloc (.cells #[.int .i64 b, .slice a nb cc] 44)).cell? ⟨wr.heap.size, 0, none⟩ = some (.int .i64 b) := cellOf (heap_alloc_new _ _) 0
      have cs : (wr.alloc (.cells #[.int .i64 b, .slice a nb cc] 44)).cell? ⟨wr.heap.size, 1, none⟩ = some (.slice a nb cc) := cellOf (heap_alloc_new _ _) 1
      have K := Lib.hid ((Only.refl (fun _ => False) wr).alloc (.cells #[.int .i64 b, .slice a nb cc] 44))
      clear hmem hm hik hnone hint hz htw
      go_wp2_with fail
      clear hlook c0 c1
      have cat := (cellOf (J0.out.same (O.out.trans K.out)).cells 1)
      have cd := (cellOf (J0.out.same (O.out.trans K.out)).cells 0)
      simp [jCells] at cat cd
      generalize wr.alloc (.cells #[.int .i64 b, .slice a nb cc] 44) = w7 at *
      generalize wr.heap.size = pb at *
      have FF := fun (hone : jMayOne D at_ ((l.take k).map (·.1)) b nb = false) => jMayTo_not (D := D) (at_ := at_) (l := l) (k := k + 1) (by have := HN.out; omega) ((jMayTo_step HB.out MT.out).trans (by rw [← HNB.out]; exact hone))
      have FF := Lib.hid FF
      have FT := fun (hone : jMayOne D at_ ((l.take k).map (·.1)) b nb = true) => (jMayTo_step HB.out MT.out).trans ((congrArg (jMayOne D at_ ((l.take k).map (·.1)) b) HNB.out.symm).trans hone)
      have FT := Lib.hid FT
      have hone : jMayOne D at_ ((l.take k).map (·.1)) b nb = !(tw || decide (at_ ≤ b ∧ b < at_ + 199) || decide (b < 0) || decide (D.len ≤ b) || decide (nb ≠ 64)) := by rw [HM.out]; rfl
      have hone := Lib.hid hone
      have hw1 := W1.out
      cases tw
      · by_cases h1 : at_ ≤ b
        · by_cases h2 : b < at_ + 199
          · have hv : jMayOne D at_ ((l.take k).map (·.1)) b nb = false := by
              rw [hone.out]
              simp [h1, h2]
            have F := Lib.hid (FF.out hv)
            clear hv
            refine wp_region_grow (Only (fun _ => False)) (fun | _ => none) (by kernel_rfl) (by kernel_rfl) (Only.refl _) (fun _ _ _ => Only.trans) ?_ ?_
            · intro i V hV
              cases hV
            simp only [List.zipIdx_cons, List.zipIdx_nil, Nat.zero_add, Nat.reduceAdd]
            iterate 1 (refine grow_det ?_ rfl (fun w' => ?_) ?_; rotate_left 1; (unfold Runs; go_simp; rfl); try simp only [Act.put, List.setIfInBounds_toArray, List.set_cons_zero, List.set_cons_succ])
            refine grow_read (.int .i64 b) rfl (fun w' hr hf => ?_) ?_
            · have h1 := some_kept hr cb
              unfold Runs
              go_simp
            simp only [Act.put, List.setIfInBounds_toArray, List.set_cons_zero, List.set_cons_succ]
            iterate 3 (refine grow_det ?_ rfl (fun w' => ?_) ?_; rotate_left 1; (unfold Runs; go_simp; rfl); try simp only [Act.put, List.setIfInBounds_toArray, List.set_cons_zero, List.set_cons_succ])
            refine grow_read (.int .i64 at_) rfl (fun w' hr hf => ?_) ?_
            · have h1 := some_kept hr cat
              unfold Runs
              go_simp
            simp only [Act.put, List.setIfInBounds_toArray, List.set_cons_zero, List.set_cons_succ]
            refine grow_det (.bool true) rfl (fun w' => ?_) ?_
            · unfold Runs
              go_simp
              all_goals (first | rfl | (simp [h1]) | omega)
            simp only [Act.put, List.setIfInBounds_toArray, List.set_cons_zero, List.set_cons_succ]
            iterate 1 (refine grow_det ?_ rfl (fun w' => ?_) ?_; rotate_left 1; (unfold Runs; go_simp; rfl); try simp only [Act.put, List.setIfInBounds_toArray, List.set_cons_zero, List.set_cons_succ])
            iterate 1 (refine grow_det ?_ rfl (fun w' => ?_) ?_; rotate_left 1; (unfold Runs; go_simp; rfl); try simp only [Act.put, List.setIfInBounds_toArray, List.set_cons_zero, List.set_cons_succ])
            refine grow_read (.int .i64 b) rfl (fun w' hr hf => ?_) ?_
            · have h1 := some_kept hr cb
              unfold Runs
              go_simp
            simp only [Act.put, List.setIfInBounds_toArray, List.set_cons_zero, List.set_cons_succ]
            iterate 3 (refine grow_det ?_ rfl (fun w' => ?_) ?_; rotate_left 1; (unfold Runs; go_simp; rfl); try simp only [Act.put, List.setIfInBounds_toArray, List.set_cons_zero, List.set_cons_succ])
            refine grow_read (.int .i64 at_) rfl (fun w' hr hf => ?_) ?_
            · have h1 := some_kept hr cat
              unfold Runs
              go_simp
            simp only [Act.put, List.setIfInBounds_toArray, List.set_cons_zero, List.set_cons_succ]
            iterate 1 (refine grow_det ?_ rfl (fun w' => ?_) ?_; rotate_left 1; (unfold Runs; go_simp; rfl); try simp only [Act.put, List.setIfInBounds_toArray, List.set_cons_zero, List.set_cons_succ])
            refine grow_det (.bool true) rfl (fun w' => ?_) ?_
            · unfold Runs
              go_simp
              all_goals (first | rfl | (simp [h2]) | omega)
            simp only [Act.put, List.setIfInBounds_toArray, List.set_cons_zero, List.set_cons_succ]
            iterate 2 (refine grow_det ?_ rfl (fun w' => ?_) ?_; rotate_left 1; (unfold Runs; go_simp; rfl); try simp only [Act.put, List.setIfInBounds_toArray, List.set_cons_zero, List.set_cons_succ])
            refine grow_end (fun w8 hr hf => ?_)
            clear hf
            have cb := some_kept hr cb
            have cs := some_kept hr cs
            have cat := some_kept hr cat
            have cd := some_kept hr cd
            have K := Lib.hid (K.out.drew.trans hr)
            clear hr
            go_wp2_with fail
            refine wp_region_grow (Only (fun _ => False)) (fun | 16 => some (fun v _ => v = undef) | _ => none) (by kernel_rfl) (by kernel_rfl) (Only.refl _) (fun _ _ _ => Only.trans) ?_ ?_
            · intro i V hV v w1 w2 hr hv
              split at hV
              · cases hV
                exact hv
              · cases hV
            simp only [List.zipIdx_cons, List.zipIdx_nil, Nat.zero_add, Nat.reduceAdd]
            iterate 5 (refine grow_det ?_ rfl (fun w' => ?_) ?_; rotate_left 1; (unfold Runs; go_simp; rfl); try simp only [Act.put, List.setIfInBounds_toArray, List.set_cons_zero, List.set_cons_succ])
            iterate 3 (refine grow_det ?_ rfl (fun w' => ?_) ?_; rotate_left 1; (unfold Runs; go_simp; rfl); try simp only [Act.put, List.setIfInBounds_toArray, List.set_cons_zero, List.set_cons_succ])
            iterate 2 (refine grow_det ?_ rfl (fun w' => ?_) ?_; rotate_left 1; (unfold Runs; go_simp; rfl); try simp only [Act.put, List.setIfInBounds_toArray, List.set_cons_zero, List.set_cons_succ])
            iterate 6 (refine grow_det ?_ rfl (fun w' => ?_) ?_; rotate_left 1; (unfold Runs; go_simp; rfl); try simp only [Act.put, List.setIfInBounds_toArray, List.set_cons_zero, List.set_cons_succ])
            refine grow_pred _ rfl (fun w' hr hf => ?_) (fun v => ?_)
            · unfold Gives
              go_simp
              exact Only.refl _ _
            simp only [Act.put, List.setIfInBounds_toArray, List.set_cons_zero, List.set_cons_succ]
            iterate 3 (refine grow_det ?_ rfl (fun w' => ?_) ?_; rotate_left 1; (unfold Runs; go_simp; rfl); try simp only [Act.put, List.setIfInBounds_toArray, List.set_cons_zero, List.set_cons_succ])
            iterate 5 (refine grow_det ?_ rfl (fun w' => ?_) ?_; rotate_left 1; (unfold Runs; go_simp; rfl); try simp only [Act.put, List.setIfInBounds_toArray, List.set_cons_zero, List.set_cons_succ])
            refine grow_end (fun w8 hr hf => ?_)
            have h9 := hf 16
            rw [upd_self] at h9
            subst h9
            clear hf
            have cb := some_kept hr cb
            have cs := some_kept hr cs
            have cat := some_kept hr cat
            have cd := some_kept hr cd
            have K := Lib.hid (K.out.drew.trans hr)
            clear hr
            go_wp2_with fail
            go_ret
            exact ⟨by rw [F.out]; rfl, O.out.trans K.out⟩
          · have h3 : ¬ b < 0 := by omega
            by_cases h4 : D.len ≤ b
            · have hv : jMayOne D at_ ((l.take k).map (·.1)) b nb = false := by
                rw [hone.out]
                simp [h4]
              have F := Lib.hid (FF.out hv)
              clear hv
              refine wp_region_grow (Only (fun _ => False)) (fun | _ => none) (by kernel_rfl) (by kernel_rfl) (Only.refl _) (fun _ _ _ => Only.trans) ?_ ?_
              · intro i V hV
                cases hV
              simp only [List.zipIdx_cons, List.zipIdx_nil, Nat.zero_add, Nat.reduceAdd]
              iterate 1 (refine grow_det ?_ rfl (fun w' => ?_) ?_; rotate_left 1; (unfold Runs; go_simp; rfl); try simp only [Act.put, List.setIfInBounds_toArray, List.set_cons_zero, List.set_cons_succ])
              refine grow_read (.int .i64 b) rfl (fun w' hr hf => ?_) ?_
              · have h1 := some_kept hr cb
                unfold Runs
                go_simp
              simp only [Act.put, List.setIfInBounds_toArray, List.set_cons_zero, List.set_cons_succ]
              iterate 3 (refine grow_det ?_ rfl (fun w' => ?_) ?_; rotate_left 1; (unfold Runs; go_simp; rfl); try simp only [Act.put, List.setIfInBounds_toArray, List.set_cons_zero, List.set_cons_succ])
              refine grow_read (.int .i64 at_) rfl (fun w' hr hf => ?_) ?_
              · have h1 := some_kept hr cat
                unfold Runs
                go_simp
              simp only [Act.put, List.setIfInBounds_toArray, List.set_cons_zero, List.set_cons_succ]
              refine grow_det (.bool true) rfl (fun w' => ?_) ?_
              · unfold Runs
                go_simp
                all_goals (first | rfl | (simp [h1]) | omega)
              simp only [Act.put, List.setIfInBounds_toArray, List.set_cons_zero, List.set_cons_succ]
              iterate 1 (refine grow_det ?_ rfl (fun w' => ?_) ?_; rotate_left 1; (unfold Runs; go_simp; rfl); try simp only [Act.put, List.setIfInBounds_toArray, List.set_cons_zero, List.set_cons_succ])
              iterate 1 (refine grow_det ?_ rfl (fun w' => ?_) ?_; rotate_left 1; (unfold Runs; go_simp; rfl); try simp only [Act.put, List.setIfInBounds_toArray, List.set_cons_zero, List.set_cons_succ])
              refine grow_read (.int .i64 b) rfl (fun w' hr hf => ?_) ?_
              · have h1 := some_kept hr cb
                unfold Runs
                go_simp
              simp only [Act.put, List.setIfInBounds_toArray, List.set_cons_zero, List.set_cons_succ]
              iterate 3 (refine grow_det ?_ rfl (fun w' => ?_) ?_; rotate_left 1; (unfold Runs; go_simp; rfl); try simp only [Act.put, List.setIfInBounds_toArray, List.set_cons_zero, List.set_cons_succ])
              refine grow_read (.int .i64 at_) rfl (fun w' hr hf => ?_) ?_
              · have h1 := some_kept hr cat
                unfold Runs
                go_simp
              simp only [Act.put, List.setIfInBounds_toArray, List.set_cons_zero, List.set_cons_succ]
              iterate 1 (refine grow_det ?_ rfl (fun w' => ?_) ?_; rotate_left 1; (unfold Runs; go_simp; rfl); try simp only [Act.put, List.setIfInBounds_toArray, List.set_cons_zero, List.set_cons_succ])
              refine grow_det (.bool false) rfl (fun w' => ?_) ?_
              · unfold Runs
                go_simp
                all_goals (first | rfl | (simp [h2]) | omega)
              simp only [Act.put, List.setIfInBounds_toArray, List.set_cons_zero, List.set_cons_succ]
              iterate 2 (refine grow_det ?_ rfl (fun w' => ?_) ?_; rotate_left 1; (unfold Runs; go_simp; rfl); try simp only [Act.put, List.setIfInBounds_toArray, List.set_cons_zero, List.set_cons_succ])
              refine grow_end (fun w8 hr hf => ?_)
              clear hf
              have cb := some_kept hr cb
              have cs := some_kept hr cs
              have cat := some_kept hr cat
              have cd := some_kept hr cd
              have K := Lib.hid (K.out.drew.trans hr)
              clear hr
              go_wp2_with fail
              refine wp_region_grow (Only (fun _ => False)) (fun | 16 => some (fun v _ => v = .int .i64 D.len) | _ => none) (by kernel_rfl) (by kernel_rfl) (Only.refl _) (fun _ _ _ => Only.trans) ?_ ?_
              · intro i V hV v w1 w2 hr hv
                split at hV
                · cases hV
                  exact hv
                · cases hV
              simp only [List.zipIdx_cons, List.zipIdx_nil, Nat.zero_add, Nat.reduceAdd]
              iterate 5 (refine grow_det ?_ rfl (fun w' => ?_) ?_; rotate_left 1; (unfold Runs; go_simp; rfl); try simp only [Act.put, List.setIfInBounds_toArray, List.set_cons_zero, List.set_cons_succ])
              iterate 1 (refine grow_det ?_ rfl (fun w' => ?_) ?_; rotate_left 1; (unfold Runs; go_simp; rfl); try simp only [Act.put, List.setIfInBounds_toArray, List.set_cons_zero, List.set_cons_succ])
              refine grow_read (.int .i64 b) rfl (fun w' hr hf => ?_) ?_
              · have h1 := some_kept hr cb
                unfold Runs
                go_simp
              simp only [Act.put, List.setIfInBounds_toArray, List.set_cons_zero, List.set_cons_succ]
              refine grow_det (.bool false) rfl (fun w' => ?_) ?_
              · unfold Runs
                go_simp
                all_goals (first | rfl | (simp [h3]) | omega)
              simp only [Act.put, List.setIfInBounds_toArray, List.set_cons_zero, List.set_cons_succ]
              iterate 2 (refine grow_det ?_ rfl (fun w' => ?_) ?_; rotate_left 1; (unfold Runs; go_simp; rfl); try simp only [Act.put, List.setIfInBounds_toArray, List.set_cons_zero, List.set_cons_succ])
              iterate 1 (refine grow_det ?_ rfl (fun w' => ?_) ?_; rotate_left 1; (unfold Runs; go_simp; rfl); try simp only [Act.put, List.setIfInBounds_toArray, List.set_cons_zero, List.set_cons_succ])
              refine grow_read (.int .i64 b) rfl (fun w' hr hf => ?_) ?_
              · have h1 := some_kept hr cb
                unfold Runs
                go_simp
              simp only [Act.put, List.setIfInBounds_toArray, List.set_cons_zero, List.set_cons_succ]
              iterate 3 (refine grow_det ?_ rfl (fun w' => ?_) ?_; rotate_left 1; (unfold Runs; go_simp; rfl); try simp only [Act.put, List.setIfInBounds_toArray, List.set_cons_zero, List.set_cons_succ])
              refine grow_read (.pointer (some ⟨p, 0, none⟩)) rfl (fun w' hr hf => ?_) ?_
              · have h1 := some_kept hr cd
                unfold Runs
                go_simp
              simp only [Act.put, List.setIfInBounds_toArray, List.set_cons_zero, List.set_cons_succ]
              refine grow_pred _ rfl (fun w' hr hf => ?_) (fun v => ?_)
              · unfold Gives gives
                go_simp
                refine (len_calls w' p r D (J0.out.same (O.out.trans (K.out.drew.trans hr))).st.disk).mono ?_
                rintro e w9 ⟨rfl, rfl⟩
                exact ⟨rfl, Only.refl _ _⟩
              simp only [Act.put, List.setIfInBounds_toArray, List.set_cons_zero, List.set_cons_succ]
              refine grow_read (.bool true) rfl (fun w' hr hf => ?_) ?_
              · have h9 := hf 16 (by kernel_rfl)
                rw [upd_self] at h9
                subst h9
                unfold Runs
                go_simp
                all_goals (simp [h4])
              simp only [Act.put, List.setIfInBounds_toArray, List.set_cons_zero, List.set_cons_succ]
              iterate 2 (refine grow_det ?_ rfl (fun w' => ?_) ?_; rotate_left 1; (unfold Runs; go_simp; rfl); try simp only [Act.put, List.setIfInBounds_toArray, List.set_cons_zero, List.set_cons_succ])
              iterate 5 (refine grow_det ?_ rfl (fun w' => ?_) ?_; rotate_left 1; (unfold Runs; go_simp; rfl); try simp only [Act.put, List.setIfInBounds_toArray, List.set_cons_zero, List.set_cons_succ])
              refine grow_end (fun w8 hr hf => ?_)
              have h9 := hf 16
              rw [upd_self] at h9
              subst h9
              clear hf
              have cb := some_kept hr cb
              have cs := some_kept hr cs
              have cat := some_kept hr cat
              have cd := some_kept hr cd
              have K := Lib.hid (K.out.drew.trans hr)
              clear hr
              go_wp2_with fail
              go_ret
              exact ⟨by rw [F.out]; rfl, O.out.trans K.out⟩
            · by_cases h5 : nb = 64
              · have hv : jMayOne D at_ ((l.take k).map (·.1)) b nb = true := by
                  rw [hone.out]
                  simp [h1, h2, h3, h4, h5]
                have F := Lib.hid (FT.out hv)
                clear hv
                refine wp_region_grow (Only (fun _ => False)) (fun | _ => none) (by kernel_rfl) (by kernel_rfl) (Only.refl _) (fun _ _ _ => Only.trans) ?_ ?_
                · intro i V hV
                  cases hV
                simp only [List.zipIdx_cons, List.zipIdx_nil, Nat.zero_add, Nat.reduceAdd]
                iterate 1 (refine grow_det ?_ rfl (fun w' => ?_) ?_; rotate_left 1; (unfold Runs; go_simp; rfl); try simp only [Act.put, List.setIfInBounds_toArray, List.set_cons_zero, List.set_cons_succ])
                refine grow_read (.int .i64 b) rfl (fun w' hr hf => ?_) ?_
                · have h1 := some_kept hr cb
                  unfold Runs
                  go_simp
                simp only [Act.put, List.setIfInBounds_toArray, List.set_cons_zero, List.set_cons_succ]
                iterate 3 (refine grow_det ?_ rfl (fun w' => ?_) ?_; rotate_left 1; (unfold Runs; go_simp; rfl); try simp only [Act.put, List.setIfInBounds_toArray, List.set_cons_zero, List.set_cons_succ])
                refine grow_read (.int .i64 at_) rfl (fun w' hr hf => ?_) ?_
                · have h1 := some_kept hr cat
                  unfold Runs
                  go_simp
                simp only [Act.put, List.setIfInBounds_toArray, List.set_cons_zero, List.set_cons_succ]
                refine grow_det (.bool true) rfl (fun w' => ?_) ?_
                · unfold Runs
                  go_simp
                  all_goals (first | rfl | (simp [h1]) | omega)
                simp only [Act.put, List.setIfInBounds_toArray, List.set_cons_zero, List.set_cons_succ]
                iterate 1 (refine grow_det ?_ rfl (fun w' => ?_) ?_; rotate_left 1; (unfold Runs; go_simp; rfl); try simp only [Act.put, List.setIfInBounds_toArray, List.set_cons_zero, List.set_cons_succ])
                iterate 1 (refine grow_det ?_ rfl (fun w' => ?_) ?_; rotate_left 1; (unfold Runs; go_simp; rfl); try simp only [Act.put, List.setIfInBounds_toArray, List.set_cons_zero, List.set_cons_succ])
                refine grow_read (.int .i64 b) rfl (fun w' hr hf => ?_) ?_
                · have h1 := some_kept hr cb
                  unfold Runs
                  go_simp
                simp only [Act.put, List.setIfInBounds_toArray, List.set_cons_zero, List.set_cons_succ]
                iterate 3 (refine grow_det ?_ rfl (fun w' => ?_) ?_; rotate_left 1; (unfold Runs; go_simp; rfl); try simp only [Act.put, List.setIfInBounds_toArray, List.set_cons_zero, List.set_cons_succ])
                refine grow_read (.int .i64 at_) rfl (fun w' hr hf => ?_) ?_
                · have h1 := some_kept hr cat
                  unfold Runs
                  go_simp
                simp only [Act.put, List.setIfInBounds_toArray, List.set_cons_zero, List.set_cons_succ]
                iterate 1 (refine grow_det ?_ rfl (fun w' => ?_) ?_; rotate_left 1; (unfold Runs; go_simp; rfl); try simp only [Act.put, List.setIfInBounds_toArray, List.set_cons_zero, List.set_cons_succ])
                refine grow_det (.bool false) rfl (fun w' => ?_) ?_
                · unfold Runs
                  go_simp
                  all_goals (first | rfl | (simp [h2]) | omega)
                simp only [Act.put, List.setIfInBounds_toArray, List.set_cons_zero, List.set_cons_succ]
                iterate 2 (refine grow_det ?_ rfl (fun w' => ?_) ?_; rotate_left 1; (unfold Runs; go_simp; rfl); try simp only [Act.put, List.setIfInBounds_toArray, List.set_cons_zero, List.set_cons_succ])
                refine grow_end (fun w8 hr hf => ?_)
                clear hf
                have cb := some_kept hr cb
                have cs := some_kept hr cs
                have cat := some_kept hr cat
                have cd := some_kept hr cd
                have K := Lib.hid (K.out.drew.trans hr)
                clear hr
                go_wp2_with fail
                refine wp_region_grow (Only (fun _ => False)) (fun | 16 => some (fun v _ => v = .int .i64 D.len) | _ => none) (by kernel_rfl) (by kernel_rfl) (Only.refl _) (fun _ _ _ => Only.trans) ?_ ?_
                · intro i V hV v w1 w2 hr hv
                  split at hV
                  · cases hV
                    exact hv
                  · cases hV
                simp only [List.zipIdx_cons, List.zipIdx_nil, Nat.zero_add, Nat.reduceAdd]
                iterate 5 (refine grow_det ?_ rfl (fun w' => ?_) ?_; rotate_left 1; (unfold Runs; go_simp; rfl); try simp only [Act.put, List.setIfInBounds_toArray, List.set_cons_zero, List.set_cons_succ])
                iterate 1 (refine grow_det ?_ rfl (fun w' => ?_) ?_; rotate_left 1; (unfold Runs; go_simp; rfl); try simp only [Act.put, List.setIfInBounds_toArray, List.set_cons_zero, List.set_cons_succ])
                refine grow_read (.int .i64 b) rfl (fun w' hr hf => ?_) ?_
                · have h1 := some_kept hr cb
                  unfold Runs
                  go_simp
                simp only [Act.put, List.setIfInBounds_toArray, List.set_cons_zero, List.set_cons_succ]
                refine grow_det (.bool false) rfl (fun w' => ?_) ?_
                · unfold Runs
                  go_simp
                  all_goals (first | rfl | (simp [h3]) | omega)
                simp only [Act.put, List.setIfInBounds_toArray, List.set_cons_zero, List.set_cons_succ]
                iterate 2 (refine grow_det ?_ rfl (fun w' => ?_) ?_; rotate_left 1; (unfold Runs; go_simp; rfl); try simp only [Act.put, List.setIfInBounds_toArray, List.set_cons_zero, List.set_cons_succ])
                iterate 1 (refine grow_det ?_ rfl (fun w' => ?_) ?_; rotate_left 1; (unfold Runs; go_simp; rfl); try simp only [Act.put, List.setIfInBounds_toArray, List.set_cons_zero, List.set_cons_succ])
                refine grow_read (.int .i64 b) rfl (fun w' hr hf => ?_) ?_
                · have h1 := some_kept hr cb
                  unfold Runs
                  go_simp
                simp only [Act.put, List.setIfInBounds_toArray, List.set_cons_zero, List.set_cons_succ]
                iterate 3 (refine grow_det ?_ rfl (fun w' => ?_) ?_; rotate_left 1; (unfold Runs; go_simp; rfl); try simp only [Act.put, List.setIfInBounds_toArray, List.set_cons_zero, List.set_cons_succ])
                refine grow_read (.pointer (some ⟨p, 0, none⟩)) rfl (fun w' hr hf => ?_) ?_
                · have h1 := some_kept hr cd
                  unfold Runs
                  go_simp
                simp only [Act.put, List.setIfInBounds_toArray, List.set_cons_zero, List.set_cons_succ]
                refine grow_pred _ rfl (fun w' hr hf => ?_) (fun v => ?_)
                · unfold Gives gives
                  go_simp
                  refine (len_calls w' p r D (J0.out.same (O.out.trans (K.out.drew.trans hr))).st.disk).mono ?_
                  rintro e w9 ⟨rfl, rfl⟩
                  exact ⟨rfl, Only.refl _ _⟩
                simp only [Act.put, List.setIfInBounds_toArray, List.set_cons_zero, List.set_cons_succ]
                refine grow_read (.bool false) rfl (fun w' hr hf => ?_) ?_
                · have h9 := hf 16 (by kernel_rfl)
                  rw [upd_self] at h9
                  subst h9
                  unfold Runs
                  go_simp
                  all_goals (simp [h4])
                simp only [Act.put, List.setIfInBounds_toArray, List.set_cons_zero, List.set_cons_succ]
                iterate 2 (refine grow_det ?_ rfl (fun w' => ?_) ?_; rotate_left 1; (unfold Runs; go_simp; rfl); try simp only [Act.put, List.setIfInBounds_toArray, List.set_cons_zero, List.set_cons_succ])
                iterate 1 (refine grow_det ?_ rfl (fun w' => ?_) ?_; rotate_left 1; (unfold Runs; go_simp; rfl); try simp only [Act.put, List.setIfInBounds_toArray, List.set_cons_zero, List.set_cons_succ])
                refine grow_read (.slice a nb cc) rfl (fun w' hr hf => ?_) ?_
                · have h1 := some_kept hr cs
                  unfold Runs
                  go_simp
                simp only [Act.put, List.setIfInBounds_toArray, List.set_cons_zero, List.set_cons_succ]
                iterate 1 (refine grow_det ?_ rfl (fun w' => ?_) ?_; rotate_left 1; (unfold Runs; go_simp; rfl); try simp only [Act.put, List.setIfInBounds_toArray, List.set_cons_zero, List.set_cons_succ])
                refine grow_det (.bool false) rfl (fun w' => ?_) ?_
                · unfold Runs
                  go_simp
                  all_goals (first | rfl | (simp [h5]) | omega)
                simp only [Act.put, List.setIfInBounds_toArray, List.set_cons_zero, List.set_cons_succ]
                iterate 1 (refine grow_det ?_ rfl (fun w' => ?_) ?_; rotate_left 1; (unfold Runs; go_simp; rfl); try simp only [Act.put, List.setIfInBounds_toArray, List.set_cons_zero, List.set_cons_succ])
                refine grow_end (fun w8 hr hf => ?_)
                have h9 := hf 16
                rw [upd_self] at h9
                subst h9
                clear hf
                have cb := some_kept hr cb
                have cs := some_kept hr cs
                have cat := some_kept hr cat
                have cd := some_kept hr cd
                have K := Lib.hid (K.out.drew.trans hr)
                clear hr
                have hm8 := K.out.keeps MP.out (fun e => e)
                obtain ⟨es', ck', w9, hrun, g1, g2, g3, g4, g5⟩ := run_mapUpdate_int Try.underlying81 Try.underlying3 hm8 MK.out b (.int .i64 (k : Nat))
                have G1 := Lib.hid ((O.out.trans K.out).then_new (Nat.le_refl _) g1)
                have G2 := Lib.hid (seen_more HB.out MN.out MI.out g3 g4 g5)
                clear g1 g2 g3 g4 g5 hm8
                go_wp2_with fail
                go_roundw
                case rel => exact ⟨k + 1, by go_num, by omega, G1.out, G2.out, F.out⟩
                case measure => simp [intOf]; omega
              · have hv : jMayOne D at_ ((l.take k).map (·.1)) b nb = false := by
                  rw [hone.out]
                  simp [h5]
                have F := Lib.hid (FF.out hv)
                clear hv
                refine wp_region_grow (Only (fun _ => False)) (fun | _ => none) (by kernel_rfl) (by kernel_rfl) (Only.refl _) (fun _ _ _ => Only.trans) ?_ ?_
                · intro i V hV
                  cases hV
                simp only [List.zipIdx_cons, List.zipIdx_nil, Nat.zero_add, Nat.reduceAdd]
                iterate 1 (refine grow_det ?_ rfl (fun w' => ?_) ?_; rotate_left 1; (unfold Runs; go_simp; rfl); try simp only [Act.put, List.setIfInBounds_toArray, List.set_cons_zero, List.set_cons_succ])
                refine grow_read (.int .i64 b) rfl (fun w' hr hf => ?_) ?_
                · have h1 := some_kept hr cb
                  unfold Runs
                  go_simp
                simp only [Act.put, List.setIfInBounds_toArray, List.set_cons_zero, List.set_cons_succ]
                iterate 3 (refine grow_det ?_ rfl (fun w' => ?_) ?_; rotate_left 1; (unfold Runs; go_simp; rfl); try simp only [Act.put, List.setIfInBounds_toArray, List.set_cons_zero, List.set_cons_succ])
                refine grow_read (.int .i64 at_) rfl (fun w' hr hf => ?_) ?_
                · have h1 := some_kept hr cat
                  unfold Runs
                  go_simp
                simp only [Act.put, List.setIfInBounds_toArray, List.set_cons_zero, List.set_cons_succ]
                refine grow_det (.bool true) rfl (fun w' => ?_) ?_
                · unfold Runs
                  go_simp
                  all_goals (first | rfl | (simp [h1]) | omega)
                simp only [Act.put, List.setIfInBounds_toArray, List.set_cons_zero, List.set_cons_succ]
                iterate 1 (refine grow_det ?_ rfl (fun w' => ?_) ?_; rotate_left 1; (unfold Runs; go_simp; rfl); try simp only [Act.put, List.setIfInBounds_toArray, List.set_cons_zero, List.set_cons_succ])
                iterate 1 (refine grow_det ?_ rfl (fun w' => ?_) ?_; rotate_left 1; (unfold Runs; go_simp; rfl); try simp only [Act.put, List.setIfInBounds_toArray, List.set_cons_zero, List.set_cons_succ])
                refine grow_read (.int .i64 b) rfl (fun w' hr hf => ?_) ?_
                · have h1 := some_kept hr cb
                  unfold Runs
                  go_simp
                simp only [Act.put, List.setIfInBounds_toArray, List.set_cons_zero, List.set_cons_succ]
                iterate 3 (refine grow_det ?_ rfl (fun w' => ?_) ?_; rotate_left 1; (unfold Runs; go_simp; rfl); try simp only [Act.put, List.setIfInBounds_toArray, List.set_cons_zero, List.set_cons_succ])
                refine grow_read (.int .i64 at_) rfl (fun w' hr hf => ?_) ?_
                · have h1 := some_kept hr cat
                  unfold Runs
                  go_simp
                simp only [Act.put, List.setIfInBounds_toArray, List.set_cons_zero, List.set_cons_succ]
                iterate 1 (refine grow_det ?_ rfl (fun w' => ?_) ?_; rotate_left 1; (unfold Runs; go_simp; rfl); try simp only [Act.put, List.setIfInBounds_toArray, List.set_cons_zero, List.set_cons_succ])
                refine grow_det (.bool false) rfl (fun w' => ?_) ?_
                · unfold Runs
                  go_simp
                  all_goals (first | rfl | (simp [h2]) | omega)
                simp only [Act.put, List.setIfInBounds_toArray, List.set_cons_zero, List.set_cons_succ]
                iterate 2 (refine grow_det ?_ rfl (fun w' => ?_) ?_; rotate_left 1; (unfold Runs; go_simp; rfl); try simp only [Act.put, List.setIfInBounds_toArray, List.set_cons_zero, List.set_cons_succ])
                refine grow_end (fun w8 hr hf => ?_)
                clear hf
                have cb := some_kept hr cb
                have cs := some_kept hr cs
                have cat := some_kept hr cat
                have cd := some_kept hr cd
                have K := Lib.hid (K.out.drew.trans hr)
                clear hr
                go_wp2_with fail
                refine wp_region_grow (Only (fun _ => False)) (fun | 16 => some (fun v _ => v = .int .i64 D.len) | _ => none) (by kernel_rfl) (by kernel_rfl) (Only.refl _) (fun _ _ _ => Only.trans) ?_ ?_
                · intro i V hV v w1 w2 hr hv
                  split at hV
                  · cases hV
                    exact hv
                  · cases hV
                simp only [List.zipIdx_cons, List.zipIdx_nil, Nat.zero_add, Nat.reduceAdd]
                iterate 5 (refine grow_det ?_ rfl (fun w' => ?_) ?_; rotate_left 1; (unfold Runs; go_simp; rfl); try simp only [Act.put, List.setIfInBounds_toArray, List.set_cons_zero, List.set_cons_succ])
                iterate 1 (refine grow_det ?_ rfl (fun w' => ?_) ?_; rotate_left 1; (unfold Runs; go_simp; rfl); try simp only [Act.put, List.setIfInBounds_toArray, List.set_cons_zero, List.set_cons_succ])
                refine grow_read (.int .i64 b) rfl (fun w' hr hf => ?_) ?_
                · have h1 := some_kept hr cb
                  unfold Runs
                  go_simp
                simp only [Act.put, List.setIfInBounds_toArray, List.set_cons_zero, List.set_cons_succ]
                refine grow_det (.bool false) rfl (fun w' => ?_) ?_
                · unfold Runs
                  go_simp
                  all_goals (first | rfl | (simp [h3]) | omega)
                simp only [Act.put, List.setIfInBounds_toArray, List.set_cons_zero, List.set_cons_succ]
                iterate 2 (refine grow_det ?_ rfl (fun w' => ?_) ?_; rotate_left 1; (unfold Runs; go_simp; rfl); try simp only [Act.put, List.setIfInBounds_toArray, List.set_cons_zero, List.set_cons_succ])
                iterate 1 (refine grow_det ?_ rfl (fun w' => ?_) ?_; rotate_left 1; (unfold Runs; go_simp; rfl); try simp only [Act.put, List.setIfInBounds_toArray, List.set_cons_zero, List.set_cons_succ])
                refine grow_read (.int .i64 b) rfl (fun w' hr hf => ?_) ?_
                · have h1 := some_kept hr cb
                  unfold Runs
                  go_simp
                simp only [Act.put, List.setIfInBounds_toArray, List.set_cons_zero, List.set_cons_succ]
                iterate 3 (refine grow_det ?_ rfl (fun w' => ?_) ?_; rotate_left 1; (unfold Runs; go_simp; rfl); try simp only [Act.put, List.setIfInBounds_toArray, List.set_cons_zero, List.set_cons_succ])
                refine grow_read (.pointer (some ⟨p, 0, none⟩)) rfl (fun w' hr hf => ?_) ?_
                · have h1 := some_kept hr cd
                  unfold Runs
                  go_simp
                simp only [Act.put, List.setIfInBounds_toArray, List.set_cons_zero, List.set_cons_succ]
                refine grow_pred _ rfl (fun w' hr hf => ?_) (fun v => ?_)
                · unfold Gives gives
                  go_simp
                  refine (len_calls w' p r D (J0.out.same (O.out.trans (K.out.drew.trans hr))).st.disk).mono ?_
                  rintro e w9 ⟨rfl, rfl⟩
                  exact ⟨rfl, Only.refl _ _⟩
                simp only [Act.put, List.setIfInBounds_toArray, List.set_cons_zero, List.set_cons_succ]
                refine grow_read (.bool false) rfl (fun w' hr hf => ?_) ?_
                · have h9 := hf 16 (by kernel_rfl)
                  rw [upd_self] at h9
                  subst h9
                  unfold Runs
                  go_simp
                  all_goals (simp [h4])
                simp only [Act.put, List.setIfInBounds_toArray, List.set_cons_zero, List.set_cons_succ]
                iterate 2 (refine grow_det ?_ rfl (fun w' => ?_) ?_; rotate_left 1; (unfold Runs; go_simp; rfl); try simp only [Act.put, List.setIfInBounds_toArray, List.set_cons_zero, List.set_cons_succ])
                iterate 1 (refine grow_det ?_ rfl (fun w' => ?_) ?_; rotate_left 1; (unfold Runs; go_simp; rfl); try simp only [Act.put, List.setIfInBounds_toArray, List.set_cons_zero, List.set_cons_succ])
                refine grow_read (.slice a nb cc) rfl (fun w' hr hf => ?_) ?_
                · have h1 := some_kept hr cs
                  unfold Runs
                  go_simp
                simp only [Act.put, List.setIfInBounds_toArray, List.set_cons_zero, List.set_cons_succ]
                iterate 1 (refine grow_det ?_ rfl (fun w' => ?_) ?_; rotate_left 1; (unfold Runs; go_simp; rfl); try simp only [Act.put, List.setIfInBounds_toArray, List.set_cons_zero, List.set_cons_succ])
                refine grow_det (.bool true) rfl (fun w' => ?_) ?_
                · unfold Runs
                  go_simp
                  all_goals (first | rfl | (simp [h5]) | omega)
                simp only [Act.put, List.setIfInBounds_toArray, List.set_cons_zero, List.set_cons_succ]
                iterate 1 (refine grow_det ?_ rfl (fun w' => ?_) ?_; rotate_left 1; (unfold Runs; go_simp; rfl); try simp only [Act.put, List.setIfInBounds_toArray, List.set_cons_zero, List.set_cons_succ])
                refine grow_end (fun w8 hr hf => ?_)
                have h9 := hf 16
                rw [upd_self] at h9
                subst h9
                clear hf
                have cb := some_kept hr cb
                have cs := some_kept hr cs
                have cat := some_kept hr cat
                have cd := some_kept hr cd
                have K := Lib.hid (K.out.drew.trans hr)
                clear hr
                go_wp2_with fail
                go_ret
                exact ⟨by rw [F.out]; rfl, O.out.trans K.out⟩
        · by_cases h3 : b < 0
          · have hv : jMayOne D at_ ((l.take k).map (·.1)) b nb = false := by
              rw [hone.out]
              simp [h3]
            have F := Lib.hid (FF.out hv)
            clear hv
            refine wp_region_grow (Only (fun _ => False)) (fun | _ => none) (by kernel_rfl) (by kernel_rfl) (Only.refl _) (fun _ _ _ => Only.trans) ?_ ?_
            · intro i V hV
              cases hV
            simp only [List.zipIdx_cons, List.zipIdx_nil, Nat.zero_add, Nat.reduceAdd]
            iterate 1 (refine grow_det ?_ rfl (fun w' => ?_) ?_; rotate_left 1; (unfold Runs; go_simp; rfl); try simp only [Act.put, List.setIfInBounds_toArray, List.set_cons_zero, List.set_cons_succ])
            refine grow_read (.int .i64 b) rfl (fun w' hr hf => ?_) ?_
            · have h1 := some_kept hr cb
              unfold Runs
              go_simp
            simp only [Act.put, List.setIfInBounds_toArray, List.set_cons_zero, List.set_cons_succ]
            iterate 3 (refine grow_det ?_ rfl (fun w' => ?_) ?_; rotate_left 1; (unfold Runs; go_simp; rfl); try simp only [Act.put, List.setIfInBounds_toArray, List.set_cons_zero, List.set_cons_succ])
            refine grow_read (.int .i64 at_) rfl (fun w' hr hf => ?_) ?_
            · have h1 := some_kept hr cat
              unfold Runs
              go_simp
            simp only [Act.put, List.setIfInBounds_toArray, List.set_cons_zero, List.set_cons_succ]
            refine grow_det (.bool false) rfl (fun w' => ?_) ?_
            · unfold Runs
              go_simp
              all_goals (first | rfl | (simp [h1]) | omega)
            simp only [Act.put, List.setIfInBounds_toArray, List.set_cons_zero, List.set_cons_succ]
            iterate 1 (refine grow_det ?_ rfl (fun w' => ?_) ?_; rotate_left 1; (unfold Runs; go_simp; rfl); try simp only [Act.put, List.setIfInBounds_toArray, List.set_cons_zero, List.set_cons_succ])
            iterate 10 (refine grow_det ?_ rfl (fun w' => ?_) ?_; rotate_left 1; (unfold Runs; go_simp; rfl); try simp only [Act.put, List.setIfInBounds_toArray, List.set_cons_zero, List.set_cons_succ])
            refine grow_end (fun w8 hr hf => ?_)
            clear hf
            have cb := some_kept hr cb
            have cs := some_kept hr cs
            have cat := some_kept hr cat
            have cd := some_kept hr cd
            have K := Lib.hid (K.out.drew.trans hr)
            clear hr
            go_wp2_with fail
            refine wp_region_grow (Only (fun _ => False)) (fun | 16 => some (fun v _ => v = undef) | _ => none) (by kernel_rfl) (by kernel_rfl) (Only.refl _) (fun _ _ _ => Only.trans) ?_ ?_
            · intro i V hV v w1 w2 hr hv
              split at hV
              · cases hV
                exact hv
              · cases hV
            simp only [List.zipIdx_cons, List.zipIdx_nil, Nat.zero_add, Nat.reduceAdd]
            iterate 5 (refine grow_det ?_ rfl (fun w' => ?_) ?_; rotate_left 1; (unfold Runs; go_simp; rfl); try simp only [Act.put, List.setIfInBounds_toArray, List.set_cons_zero, List.set_cons_succ])
            iterate 1 (refine grow_det ?_ rfl (fun w' => ?_) ?_; rotate_left 1; (unfold Runs; go_simp; rfl); try simp only [Act.put, List.setIfInBounds_toArray, List.set_cons_zero, List.set_cons_succ])
            refine grow_read (.int .i64 b) rfl (fun w' hr hf => ?_) ?_
            · have h1 := some_kept hr cb
              unfold Runs
              go_simp
            simp only [Act.put, List.setIfInBounds_toArray, List.set_cons_zero, List.set_cons_succ]
            refine grow_det (.bool true) rfl (fun w' => ?_) ?_
            · unfold Runs
              go_simp
              all_goals (first | rfl | (simp [h3]) | omega)
            simp only [Act.put, List.setIfInBounds_toArray, List.set_cons_zero, List.set_cons_succ]
            iterate 2 (refine grow_det ?_ rfl (fun w' => ?_) ?_; rotate_left 1; (unfold Runs; go_simp; rfl); try simp only [Act.put, List.setIfInBounds_toArray, List.set_cons_zero, List.set_cons_succ])
            iterate 6 (refine grow_det ?_ rfl (fun w' => ?_) ?_; rotate_left 1; (unfold Runs; go_simp; rfl); try simp only [Act.put, List.setIfInBounds_toArray, List.set_cons_zero, List.set_cons_succ])
            refine grow_pred _ rfl (fun w' hr hf => ?_) (fun v => ?_)
            · unfold Gives
              go_simp
              exact Only.refl _ _
            simp only [Act.put, List.setIfInBounds_toArray, List.set_cons_zero, List.set_cons_succ]
            iterate 3 (refine grow_det ?_ rfl (fun w' => ?_) ?_; rotate_left 1; (unfold Runs; go_simp; rfl); try simp only [Act.put, List.setIfInBounds_toArray, List.set_cons_zero, List.set_cons_succ])
            iterate 5 (refine grow_det ?_ rfl (fun w' => ?_) ?_; rotate_left 1; (unfold Runs; go_simp; rfl); try simp only [Act.put, List.setIfInBounds_toArray, List.set_cons_zero, List.set_cons_succ])
            refine grow_end (fun w8 hr hf => ?_)
            have h9 := hf 16
            rw [upd_self] at h9
            subst h9
            clear hf
            have cb := some_kept hr cb
            have cs := some_kept hr cs
            have cat := some_kept hr cat
            have cd := some_kept hr cd
            have K := Lib.hid (K.out.drew.trans hr)
            clear hr
            go_wp2_with fail
            go_ret
            exact ⟨by rw [F.out]; rfl, O.out.trans K.out⟩
          · have h4 : ¬ D.len ≤ b := by omega
            by_cases h5 : nb = 64
            · have hv : jMayOne D at_ ((l.take k).map (·.1)) b nb = true := by
                rw [hone.out]
                simp [h1, h3, h4, h5]
              have F := Lib.hid (FT.out hv)
              clear hv
              refine wp_region_grow (Only (fun _ => False)) (fun | _ => none) (by kernel_rfl) (by kernel_rfl) (Only.refl _) (fun _ _ _ => Only.trans) ?_ ?_
              · intro i V hV
                cases hV
              simp only [List.zipIdx_cons, List.zipIdx_nil, Nat.zero_add, Nat.reduceAdd]
              iterate 1 (refine grow_det ?_ rfl (fun w' => ?_) ?_; rotate_left 1; (unfold Runs; go_simp; rfl); try simp only [Act.put, List.setIfInBounds_toArray, List.set_cons_zero, List.set_cons_succ])
              refine grow_read (.int .i64 b) rfl (fun w' hr hf => ?_) ?_
              · have h1 := some_kept hr cb
                unfold Runs
                go_simp
              simp only [Act.put, List.setIfInBounds_toArray, List.set_cons_zero, List.set_cons_succ]
              iterate 3 (refine grow_det ?_ rfl (fun w' => ?_) ?_; rotate_left 1; (unfold Runs; go_simp; rfl); try simp only [Act.put, List.setIfInBounds_toArray, List.set_cons_zero, List.set_cons_succ])
              refine grow_read (.int .i64 at_) rfl (fun w' hr hf => ?_) ?_
              · have h1 := some_kept hr cat
                unfold Runs
                go_simp
              simp only [Act.put, List.setIfInBounds_toArray, List.set_cons_zero, List.set_cons_succ]
              refine grow_det (.bool false) rfl (fun w' => ?_) ?_
              · unfold Runs
                go_simp
                all_goals (first | rfl | (simp [h1]) | omega)
              simp only [Act.put, List.setIfInBounds_toArray, List.set_cons_zero, List.set_cons_succ]
              iterate 1 (refine grow_det ?_ rfl (fun w' => ?_) ?_; rotate_left 1; (unfold Runs; go_simp; rfl); try simp only [Act.put, List.setIfInBounds_toArray, List.set_cons_zero, List.set_cons_succ])
              iterate 10 (refine grow_det ?_ rfl (fun w' => ?_) ?_; rotate_left 1; (unfold Runs; go_simp; rfl); try simp only [Act.put, List.setIfInBounds_toArray, List.set_cons_zero, List.set_cons_succ])
              refine grow_end (fun w8 hr hf => ?_)
              clear hf
              have cb := some_kept hr cb
              have cs := some_kept hr cs
              have cat := some_kept hr cat
              have cd := some_kept hr cd
              have K := Lib.hid (K.out.drew.trans hr)
              clear hr
              go_wp2_with fail
              refine wp_region_grow (Only (fun _ => False)) (fun | 16 => some (fun v _ => v = .int .i64 D.len) | _ => none) (by kernel_rfl) (by kernel_rfl) (Only.refl _) (fun _ _ _ => Only.trans) ?_ ?_
              · intro i V hV v w1 w2 hr hv
                split at hV
                · cases hV
                  exact hv
                · cases hV
              simp only [List.zipIdx_cons, List.zipIdx_nil, Nat.zero_add, Nat.reduceAdd]
              iterate 5 (refine grow_det ?_ rfl (fun w' => ?_) ?_; rotate_left 1; (unfold Runs; go_simp; rfl); try simp only [Act.put, List.setIfInBounds_toArray, List.set_cons_zero, List.set_cons_succ])
              iterate 1 (refine grow_det ?_ rfl (fun w' => ?_) ?_; rotate_left 1; (unfold Runs; go_simp; rfl); try simp only [Act.put, List.setIfInBounds_toArray, List.set_cons_zero, List.set_cons_succ])
              refine grow_read (.int .i64 b) rfl (fun w' hr hf => ?_) ?_
              · have h1 := some_kept hr cb
                unfold Runs
                go_simp
              simp only [Act.put, List.setIfInBounds_toArray, List.set_cons_zero, List.set_cons_succ]
              refine grow_det (.bool false) rfl (fun w' => ?_) ?_
              · unfold Runs
                go_simp
                all_goals (first | rfl | (simp [h3]) | omega)
              simp only [Act.put, List.setIfInBounds_toArray, List.set_cons_zero, List.set_cons_succ]
              iterate 2 (refine grow_det ?_ rfl (fun w' => ?_) ?_; rotate_left 1; (unfold Runs; go_simp; rfl); try simp only [Act.put, List.setIfInBounds_toArray, List.set_cons_zero, List.set_cons_succ])
              iterate 1 (refine grow_det ?_ rfl (fun w' => ?_) ?_; rotate_left 1; (unfold Runs; go_simp; rfl); try simp only [Act.put, List.setIfInBounds_toArray, List.set_cons_zero, List.set_cons_succ])
              refine grow_read (.int .i64 b) rfl (fun w' hr hf => ?_) ?_
              · have h1 := some_kept hr cb
                unfold Runs
                go_simp
              simp only [Act.put, List.setIfInBounds_toArray, List.set_cons_zero, List.set_cons_succ]
              iterate 3 (refine grow_det ?_ rfl (fun w' => ?_) ?_; rotate_left 1; (unfold Runs; go_simp; rfl); try simp only [Act.put, List.setIfInBounds_toArray, List.set_cons_zero, List.set_cons_succ])
              refine grow_read (.pointer (some ⟨p, 0, none⟩)) rfl (fun w' hr hf => ?_) ?_
              · have h1 := some_kept hr cd
                unfold Runs
                go_simp
              simp only [Act.put, List.setIfInBounds_toArray, List.set_cons_zero, List.set_cons_succ]
              refine grow_pred _ rfl (fun w' hr hf => ?_) (fun v => ?_)
              · unfold Gives gives
                go_simp
                refine (len_calls w' p r D (J0.out.same (O.out.trans (K.out.drew.trans hr))).st.disk).mono ?_
                rintro e w9 ⟨rfl, rfl⟩
                exact ⟨rfl, Only.refl _ _⟩
              simp only [Act.put, List.setIfInBounds_toArray, List.set_cons_zero, List.set_cons_succ]
              refine grow_read (.bool false) rfl (fun w' hr hf => ?_) ?_
              · have h9 := hf 16 (by kernel_rfl)
                rw [upd_self] at h9
                subst h9
                unfold Runs
                go_simp
                all_goals (simp [h4])
              simp only [Act.put, List.setIfInBounds_toArray, List.set_cons_zero, List.set_cons_succ]
              iterate 2 (refine grow_det ?_ rfl (fun w' => ?_) ?_; rotate_left 1; (unfold Runs; go_simp; rfl); try simp only [Act.put, List.setIfInBounds_toArray, List.set_cons_zero, List.set_cons_succ])
              iterate 1 (refine grow_det ?_ rfl (fun w' => ?_) ?_; rotate_left 1; (unfold Runs; go_simp; rfl); try simp only [Act.put, List.setIfInBounds_toArray, List.set_cons_zero, List.set_cons_succ])
              refine grow_read (.slice a nb cc) rfl (fun w' hr hf => ?_) ?_
              · have h1 := some_kept hr cs
                unfold Runs
                go_simp
              simp only [Act.put, List.setIfInBounds_toArray, List.set_cons_zero, List.set_cons_succ]
              iterate 1 (refine grow_det ?_ rfl (fun w' => ?_) ?_; rotate_left 1; (unfold Runs; go_simp; rfl); try simp only [Act.put, List.setIfInBounds_toArray, List.set_cons_zero, List.set_cons_succ])
              refine grow_det (.bool false) rfl (fun w' => ?_) ?_
              · unfold Runs
                go_simp
                all_goals (first | rfl | (simp [h5]) | omega)
              simp only [Act.put, List.setIfInBounds_toArray, List.set_cons_zero, List.set_cons_succ]
              iterate 1 (refine grow_det ?_ rfl (fun w' => ?_) ?_; rotate_left 1; (unfold Runs; go_simp; rfl); try simp only [Act.put, List.setIfInBounds_toArray, List.set_cons_zero, List.set_cons_succ])
              refine grow_end (fun w8 hr hf => ?_)
              have h9 := hf 16
              rw [upd_self] at h9
              subst h9
              clear hf
              have cb := some_kept hr cb
              have cs := some_kept hr cs
              have cat := some_kept hr cat
              have cd := some_kept hr cd
              have K := Lib.hid (K.out.drew.trans hr)
              clear hr
              have hm8 := K.out.keeps MP.out (fun e => e)
              obtain ⟨es', ck', w9, hrun, g1, g2, g3, g4, g5⟩ := run_mapUpdate_int Try.underlying81 Try.underlying3 hm8 MK.out b (.int .i64 (k : Nat))
              have G1 := Lib.hid ((O.out.trans K.out).then_new (Nat.le_refl _) g1)
              have G2 := Lib.hid (seen_more HB.out MN.out MI.out g3 g4 g5)
              clear g1 g2 g3 g4 g5 hm8
              go_wp2_with fail
              go_roundw
              case rel => exact ⟨k + 1, by go_num, by omega, G1.out, G2.out, F.out⟩
              case measure => simp [intOf]; omega
            · have hv : jMayOne D at_ ((l.take k).map (·.1)) b nb = false := by
                rw [hone.out]
                simp [h5]
              have F := Lib.hid (FF.out hv)
              clear hv
              refine wp_region_grow (Only (fun _ => False)) (fun | _ => none) (by kernel_rfl) (by kernel_rfl) (Only.refl _) (fun _ _ _ => Only.trans) ?_ ?_
              · intro i V hV
                cases hV
              simp only [List.zipIdx_cons, List.zipIdx_nil, Nat.zero_add, Nat.reduceAdd]
              iterate 1 (refine grow_det ?_ rfl (fun w' => ?_) ?_; rotate_left 1; (unfold Runs; go_simp; rfl); try simp only [Act.put, List.setIfInBounds_toArray, List.set_cons_zero, List.set_cons_succ])
              refine grow_read (.int .i64 b) rfl (fun w' hr hf => ?_) ?_
              · have h1 := some_kept hr cb
                unfold Runs
                go_simp
              simp only [Act.put, List.setIfInBounds_toArray, List.set_cons_zero, List.set_cons_succ]
              iterate 3 (refine grow_det ?_ rfl (fun w' => ?_) ?_; rotate_left 1; (unfold Runs; go_simp; rfl); try simp only [Act.put, List.setIfInBounds_toArray, List.set_cons_zero, List.set_cons_succ])
              refine grow_read (.int .i64 at_) rfl (fun w' hr hf => ?_) ?_
              · have h1 := some_kept hr cat
                unfold Runs
                go_simp
              simp only [Act.put, List.setIfInBounds_toArray, List.set_cons_zero, List.set_cons_succ]
              refine grow_det (.bool false) rfl (fun w' => ?_) ?_
              · unfold Runs
                go_simp
                all_goals (first | rfl | (simp [h1]) | omega)
              simp only [Act.put, List.setIfInBounds_toArray, List.set_cons_zero, List.set_cons_succ]
              iterate 1 (refine grow_det ?_ rfl (fun w' => ?_) ?_; rotate_left 1; (unfold Runs; go_simp; rfl); try simp only [Act.put, List.setIfInBounds_toArray, List.set_cons_zero, List.set_cons_succ])
              iterate 10 (refine grow_det ?_ rfl (fun w' => ?_) ?_; rotate_left 1; (unfold Runs; go_simp; rfl); try simp only [Act.put, List.setIfInBounds_toArray, List.set_cons_zero, List.set_cons_succ])
              refine grow_end (fun w8 hr hf => ?_)
              clear hf
              have cb := some_kept hr cb
              have cs := some_kept hr cs
              have cat := some_kept hr cat
              have cd := some_kept hr cd
              have K := Lib.hid (K.out.drew.trans hr)
              clear hr
              go_wp2_with fail
              refine wp_region_grow (Only (fun _ => False)) (fun | 16 => some (fun v _ => v = .int .i64 D.len) | _ => none) (by kernel_rfl) (by kernel_rfl) (Only.refl _) (fun _ _ _ => Only.trans) ?_ ?_
              · intro i V hV v w1 w2 hr hv
                split at hV
                · cases hV
                  exact hv
                · cases hV
              simp only [List.zipIdx_cons, List.zipIdx_nil, Nat.zero_add, Nat.reduceAdd]
              iterate 5 (refine grow_det ?_ rfl (fun w' => ?_) ?_; rotate_left 1; (unfold Runs; go_simp; rfl); try simp only [Act.put, List.setIfInBounds_toArray, List.set_cons_zero, List.set_cons_succ])
              iterate 1 (refine grow_det ?_ rfl (fun w' => ?_) ?_; rotate_left 1; (unfold Runs; go_simp; rfl); try simp only [Act.put, List.setIfInBounds_toArray, List.set_cons_zero, List.set_cons_succ])
              refine grow_read (.int .i64 b) rfl (fun w' hr hf => ?_) ?_
              · have h1 := some_kept hr cb
                unfold Runs
                go_simp
              simp only [Act.put, List.setIfInBounds_toArray, List.set_cons_zero, List.set_cons_succ]
              refine grow_det (.bool false) rfl (fun w' => ?_) ?_
              · unfold Runs
                go_simp
                all_goals (first | rfl | (simp [h3]) | omega)
              simp only [Act.put, List.setIfInBounds_toArray, List.set_cons_zero, List.set_cons_succ]
              iterate 2 (refine grow_det ?_ rfl (fun w' => ?_) ?_; rotate_left 1; (unfold Runs; go_simp; rfl); try simp only [Act.put, List.setIfInBounds_toArray, List.set_cons_zero, List.set_cons_succ])
              iterate 1 (refine grow_det ?_ rfl (fun w' => ?_) ?_; rotate_left 1; (unfold Runs; go_simp; rfl); try simp only [Act.put, List.setIfInBounds_toArray, List.set_cons_zero, List.set_cons_succ])
              refine grow_read (.int .i64 b) rfl (fun w' hr hf => ?_) ?_
              · have h1 := some_kept hr cb
                unfold Runs
                go_simp
              simp only [Act.put, List.setIfInBounds_toArray, List.set_cons_zero, List.set_cons_succ]
              iterate 3 (refine grow_det ?_ rfl (fun w' => ?_) ?_; rotate_left 1; (unfold Runs; go_simp; rfl); try simp only [Act.put, List.setIfInBounds_toArray, List.set_cons_zero, List.set_cons_succ])
              refine grow_read (.pointer (some ⟨p, 0, none⟩)) rfl (fun w' hr hf => ?_) ?_
              · have h1 := some_kept hr cd
                unfold Runs
                go_simp
              simp only [Act.put, List.setIfInBounds_toArray, List.set_cons_zero, List.set_cons_succ]
              refine grow_pred _ rfl (fun w' hr hf => ?_) (fun v => ?_)
              · unfold Gives gives
                go_simp
                refine (len_calls w' p r D (J0.out.same (O.out.trans (K.out.drew.trans hr))).st.disk).mono ?_
                rintro e w9 ⟨rfl, rfl⟩
                exact ⟨rfl, Only.refl _ _⟩
              simp only [Act.put, List.setIfInBounds_toArray, List.set_cons_zero, List.set_cons_succ]
              refine grow_read (.bool false) rfl (fun w' hr hf => ?_) ?_
              · have h9 := hf 16 (by kernel_rfl)
                rw [upd_self] at h9
                subst h9
                unfold Runs
                go_simp
                all_goals (simp [h4])
              simp only [Act.put, List.setIfInBounds_toArray, List.set_cons_zero, List.set_cons_succ]
              iterate 2 (refine grow_det ?_ rfl (fun w' => ?_) ?_; rotate_left 1; (unfold Runs; go_simp; rfl); try simp only [Act.put, List.setIfInBounds_toArray, List.set_cons_zero, List.set_cons_succ])
              iterate 1 (refine grow_det ?_ rfl (fun w' => ?_) ?_; rotate_left 1; (unfold Runs; go_simp; rfl); try simp only [Act.put, List.setIfInBounds_toArray, List.set_cons_zero, List.set_cons_succ])
              refine grow_read (.slice a nb cc) rfl (fun w' hr hf => ?_) ?_
              · have h1 := some_kept hr cs
                unfold Runs
                go_simp
              simp only [Act.put, List.setIfInBounds_toArray, List.set_cons_zero, List.set_cons_succ]
              iterate 1 (refine grow_det ?_ rfl (fun w' => ?_) ?_; rotate_left 1; (unfold Runs; go_simp; rfl); try simp only [Act.put, List.setIfInBounds_toArray, List.set_cons_zero, List.set_cons_succ])
              refine grow_det (.bool true) rfl (fun w' => ?_) ?_
              · unfold Runs
                go_simp
                all_goals (first | rfl | (simp [h5]) | omega)
              simp only [Act.put, List.setIfInBounds_toArray, List.set_cons_zero, List.set_cons_succ]
              iterate 1 (refine grow_det ?_ rfl (fun w' => ?_) ?_; rotate_left 1; (unfold Runs; go_simp; rfl); try simp only [Act.put, List.setIfInBounds_toArray, List.set_cons_zero, List.set_cons_succ])
              refine grow_end (fun w8 hr hf => ?_)
              have h9 := hf 16
              rw [upd_self] at h9
              subst h9
              clear hf
              have cb := some_kept hr cb
              have cs := some_kept hr cs
              have cat := some_kept hr cat
              have cd := some_kept hr cd
              have K := Lib.hid (K.out.drew.trans hr)
              clear hr
              go_wp2_with fail
              go_ret
              exact ⟨by rw [F.out]; rfl, O.out.trans K.out⟩
      · by_cases h1 : at_ ≤ b
        · by_cases h2 : b < at_ + 199
          · have hv : jMayOne D at_ ((l.take k).map (·.1)) b nb = false := by
              rw [hone.out]
              simp []
            have F := Lib.hid (FF.out hv)
            clear hv
            refine wp_region_grow (Only (fun _ => False)) (fun | _ => none) (by kernel_rfl) (by kernel_rfl) (Only.refl _) (fun _ _ _ => Only.trans) ?_ ?_
            · intro i V hV
              cases hV
            simp only [List.zipIdx_cons, List.zipIdx_nil, Nat.zero_add, Nat.reduceAdd]
            iterate 1 (refine grow_det ?_ rfl (fun w' => ?_) ?_; rotate_left 1; (unfold Runs; go_simp; rfl); try simp only [Act.put, List.setIfInBounds_toArray, List.set_cons_zero, List.set_cons_succ])
            refine grow_read (.int .i64 b) rfl (fun w' hr hf => ?_) ?_
            · have h1 := some_kept hr cb
              unfold Runs
              go_simp
            simp only [Act.put, List.setIfInBounds_toArray, List.set_cons_zero, List.set_cons_succ]
            iterate 3 (refine grow_det ?_ rfl (fun w' => ?_) ?_; rotate_left 1; (unfold Runs; go_simp; rfl); try simp only [Act.put, List.setIfInBounds_toArray, List.set_cons_zero, List.set_cons_succ])
            refine grow_read (.int .i64 at_) rfl (fun w' hr hf => ?_) ?_
            · have h1 := some_kept hr cat
              unfold Runs
              go_simp
            simp only [Act.put, List.setIfInBounds_toArray, List.set_cons_zero, List.set_cons_succ]
            refine grow_det (.bool true) rfl (fun w' => ?_) ?_
            · unfold Runs
              go_simp
              all_goals (first | rfl | (simp [h1]) | omega)
            simp only [Act.put, List.setIfInBounds_toArray, List.set_cons_zero, List.set_cons_succ]
            iterate 1 (refine grow_det ?_ rfl (fun w' => ?_) ?_; rotate_left 1; (unfold Runs; go_simp; rfl); try simp only [Act.put, List.setIfInBounds_toArray, List.set_cons_zero, List.set_cons_succ])
            iterate 1 (refine grow_det ?_ rfl (fun w' => ?_) ?_; rotate_left 1; (unfold Runs; go_simp; rfl); try simp only [Act.put, List.setIfInBounds_toArray, List.set_cons_zero, List.set_cons_succ])
            refine grow_read (.int .i64 b) rfl (fun w' hr hf => ?_) ?_
            · have h1 := some_kept hr cb
              unfold Runs
              go_simp
            simp only [Act.put, List.setIfInBounds_toArray, List.set_cons_zero, List.set_cons_succ]
            iterate 3 (refine grow_det ?_ rfl (fun w' => ?_) ?_; rotate_left 1; (unfold Runs; go_simp; rfl); try simp only [Act.put, List.setIfInBounds_toArray, List.set_cons_zero, List.set_cons_succ])
            refine grow_read (.int .i64 at_) rfl (fun w' hr hf => ?_) ?_
            · have h1 := some_kept hr cat
              unfold Runs
              go_simp
            simp only [Act.put, List.setIfInBounds_toArray, List.set_cons_zero, List.set_cons_succ]
            iterate 1 (refine grow_det ?_ rfl (fun w' => ?_) ?_; rotate_left 1; (unfold Runs; go_simp; rfl); try simp only [Act.put, List.setIfInBounds_toArray, List.set_cons_zero, List.set_cons_succ])
            refine grow_det (.bool true) rfl (fun w' => ?_) ?_
            · unfold Runs
              go_simp
              all_goals (first | rfl | (simp [h2]) | omega)
            simp only [Act.put, List.setIfInBounds_toArray, List.set_cons_zero, List.set_cons_succ]
            iterate 2 (refine grow_det ?_ rfl (fun w' => ?_) ?_; rotate_left 1; (unfold Runs; go_simp; rfl); try simp only [Act.put, List.setIfInBounds_toArray, List.set_cons_zero, List.set_cons_succ])
            refine grow_end (fun w8 hr hf => ?_)
            clear hf
            have cb := some_kept hr cb
            have cs := some_kept hr cs
            have cat := some_kept hr cat
            have cd := some_kept hr cd
            have K := Lib.hid (K.out.drew.trans hr)
            clear hr
            go_wp2_with fail
            refine wp_region_grow (Only (fun _ => False)) (fun | 16 => some (fun v _ => v = undef) | _ => none) (by kernel_rfl) (by kernel_rfl) (Only.refl _) (fun _ _ _ => Only.trans) ?_ ?_
            · intro i V hV v w1 w2 hr hv
              split at hV
              · cases hV
                exact hv
              · cases hV
            simp only [List.zipIdx_cons, List.zipIdx_nil, Nat.zero_add, Nat.reduceAdd]
            iterate 5 (refine grow_det ?_ rfl (fun w' => ?_) ?_; rotate_left 1; (unfold Runs; go_simp; rfl); try simp only [Act.put, List.setIfInBounds_toArray, List.set_cons_zero, List.set_cons_succ])
            iterate 3 (refine grow_det ?_ rfl (fun w' => ?_) ?_; rotate_left 1; (unfold Runs; go_simp; rfl); try simp only [Act.put, List.setIfInBounds_toArray, List.set_cons_zero, List.set_cons_succ])
            iterate 2 (refine grow_det ?_ rfl (fun w' => ?_) ?_; rotate_left 1; (unfold Runs; go_simp; rfl); try simp only [Act.put, List.setIfInBounds_toArray, List.set_cons_zero, List.set_cons_succ])
            iterate 6 (refine grow_det ?_ rfl (fun w' => ?_) ?_; rotate_left 1; (unfold Runs; go_simp; rfl); try simp only [Act.put, List.setIfInBounds_toArray, List.set_cons_zero, List.set_cons_succ])
            refine grow_pred _ rfl (fun w' hr hf => ?_) (fun v => ?_)
            · unfold Gives
              go_simp
              exact Only.refl _ _
            simp only [Act.put, List.setIfInBounds_toArray, List.set_cons_zero, List.set_cons_succ]
            iterate 3 (refine grow_det ?_ rfl (fun w' => ?_) ?_; rotate_left 1; (unfold Runs; go_simp; rfl); try simp only [Act.put, List.setIfInBounds_toArray, List.set_cons_zero, List.set_cons_succ])
            iterate 5 (refine grow_det ?_ rfl (fun w' => ?_) ?_; rotate_left 1; (unfold Runs; go_simp; rfl); try simp only [Act.put, List.setIfInBounds_toArray, List.set_cons_zero, List.set_cons_succ])
            refine grow_end (fun w8 hr hf => ?_)
            have h9 := hf 16
            rw [upd_self] at h9
            subst h9
            clear hf
            have cb := some_kept hr cb
            have cs := some_kept hr cs
            have cat := some_kept hr cat
            have cd := some_kept hr cd
            have K := Lib.hid (K.out.drew.trans hr)
            clear hr
            go_wp2_with fail
            go_ret
            exact ⟨by rw [F.out]; rfl, O.out.trans K.out⟩
          · have hv : jMayOne D at_ ((l.take k).map (·.1)) b nb = false := by
              rw [hone.out]
              simp []
            have F := Lib.hid (FF.out hv)
            clear hv
            refine wp_region_grow (Only (fun _ => False)) (fun | _ => none) (by kernel_rfl) (by kernel_rfl) (Only.refl _) (fun _ _ _ => Only.trans) ?_ ?_
            · intro i V hV
              cases hV
            simp only [List.zipIdx_cons, List.zipIdx_nil, Nat.zero_add, Nat.reduceAdd]
            iterate 1 (refine grow_det ?_ rfl (fun w' => ?_) ?_; rotate_left 1; (unfold Runs; go_simp; rfl); try simp only [Act.put, List.setIfInBounds_toArray, List.set_cons_zero, List.set_cons_succ])
            refine grow_read (.int .i64 b) rfl (fun w' hr hf => ?_) ?_
            · have h1 := some_kept hr cb
              unfold Runs
              go_simp
            simp only [Act.put, List.setIfInBounds_toArray, List.set_cons_zero, List.set_cons_succ]
            iterate 3 (refine grow_det ?_ rfl (fun w' => ?_) ?_; rotate_left 1; (unfold Runs; go_simp; rfl); try simp only [Act.put, List.setIfInBounds_toArray, List.set_cons_zero, List.set_cons_succ])
            refine grow_read (.int .i64 at_) rfl (fun w' hr hf => ?_) ?_
            · have h1 := some_kept hr cat
              unfold Runs
              go_simp
            simp only [Act.put, List.setIfInBounds_toArray, List.set_cons_zero, List.set_cons_succ]
            refine grow_det (.bool true) rfl (fun w' => ?_) ?_
            · unfold Runs
              go_simp
              all_goals (first | rfl | (simp [h1]) | omega)
            simp only [Act.put, List.setIfInBounds_toArray, List.set_cons_zero, List.set_cons_succ]
            iterate 1 (refine grow_det ?_ rfl (fun w' => ?_) ?_; rotate_left 1; (unfold Runs; go_simp; rfl); try simp only [Act.put, List.setIfInBounds_toArray, List.set_cons_zero, List.set_cons_succ])
            iterate 1 (refine grow_det ?_ rfl (fun w' => ?_) ?_; rotate_left 1; (unfold Runs; go_simp; rfl); try simp only [Act.put, List.setIfInBounds_toArray, List.set_cons_zero, List.set_cons_succ])
            refine grow_read (.int .i64 b) rfl (fun w' hr hf => ?_) ?_
            · have h1 := some_kept hr cb
              unfold Runs
              go_simp
            simp only [Act.put, List.setIfInBounds_toArray, List.set_cons_zero, List.set_cons_succ]
            iterate 3 (refine grow_det ?_ rfl (fun w' => ?_) ?_; rotate_left 1; (unfold Runs; go_simp; rfl); try simp only [Act.put, List.setIfInBounds_toArray, List.set_cons_zero, List.set_cons_succ])
            refine grow_read (.int .i64 at_) rfl (fun w' hr hf => ?_) ?_
            · have h1 := some_kept hr cat
              unfold Runs
              go_simp
            simp only [Act.put, List.setIfInBounds_toArray, List.set_cons_zero, List.set_cons_succ]
            iterate 1 (refine grow_det ?_ rfl (fun w' => ?_) ?_; rotate_left 1; (unfold Runs; go_simp; rfl); try simp only [Act.put, List.setIfInBounds_toArray, List.set_cons_zero, List.set_cons_succ])
            refine grow_det (.bool false) rfl (fun w' => ?_) ?_
            · unfold Runs
              go_simp
              all_goals (first | rfl | (simp [h2]) | omega)
            simp only [Act.put, List.setIfInBounds_toArray, List.set_cons_zero, List.set_cons_succ]
            iterate 2 (refine grow_det ?_ rfl (fun w' => ?_) ?_; rotate_left 1; (unfold Runs; go_simp; rfl); try simp only [Act.put, List.setIfInBounds_toArray, List.set_cons_zero, List.set_cons_succ])
            refine grow_end (fun w8 hr hf => ?_)
            clear hf
            have cb := some_kept hr cb
            have cs := some_kept hr cs
            have cat := some_kept hr cat
            have cd := some_kept hr cd
            have K := Lib.hid (K.out.drew.trans hr)
            clear hr
            go_wp2_with fail
            refine wp_region_grow (Only (fun _ => False)) (fun | 16 => some (fun v _ => v = undef) | _ => none) (by kernel_rfl) (by kernel_rfl) (Only.refl _) (fun _ _ _ => Only.trans) ?_ ?_
            · intro i V hV v w1 w2 hr hv
              split at hV
              · cases hV
                exact hv
              · cases hV
            simp only [List.zipIdx_cons, List.zipIdx_nil, Nat.zero_add, Nat.reduceAdd]
            iterate 5 (refine grow_det ?_ rfl (fun w' => ?_) ?_; rotate_left 1; (unfold Runs; go_simp; rfl); try simp only [Act.put, List.setIfInBounds_toArray, List.set_cons_zero, List.set_cons_succ])
            iterate 3 (refine grow_det ?_ rfl (fun w' => ?_) ?_; rotate_left 1; (unfold Runs; go_simp; rfl); try simp only [Act.put, List.setIfInBounds_toArray, List.set_cons_zero, List.set_cons_succ])
            iterate 2 (refine grow_det ?_ rfl (fun w' => ?_) ?_; rotate_left 1; (unfold Runs; go_simp; rfl); try simp only [Act.put, List.setIfInBounds_toArray, List.set_cons_zero, List.set_cons_succ])
            iterate 6 (refine grow_det ?_ rfl (fun w' => ?_) ?_; rotate_left 1; (unfold Runs; go_simp; rfl); try simp only [Act.put, List.setIfInBounds_toArray, List.set_cons_zero, List.set_cons_succ])
            refine grow_pred _ rfl (fun w' hr hf => ?_) (fun v => ?_)
            · unfold Gives
              go_simp
              exact Only.refl _ _
            simp only [Act.put, List.setIfInBounds_toArray, List.set_cons_zero, List.set_cons_succ]
            iterate 3 (refine grow_det ?_ rfl (fun w' => ?_) ?_; rotate_left 1; (unfold Runs; go_simp; rfl); try simp only [Act.put, List.setIfInBounds_toArray, List.set_cons_zero, List.set_cons_succ])
            iterate 5 (refine grow_det ?_ rfl (fun w' => ?_) ?_; rotate_left 1; (unfold Runs; go_simp; rfl); try simp only [Act.put, List.setIfInBounds_toArray, List.set_cons_zero, List.set_cons_succ])
            refine grow_end (fun w8 hr hf => ?_)
            have h9 := hf 16
            rw [upd_self] at h9
            subst h9
            clear hf
            have cb := some_kept hr cb
            have cs := some_kept hr cs
            have cat := some_kept hr cat
            have cd := some_kept hr cd
            have K := Lib.hid (K.out.drew.trans hr)
            clear hr
            go_wp2_with fail
            go_ret
            exact ⟨by rw [F.out]; rfl, O.out.trans K.out⟩
        · have hv : jMayOne D at_ ((l.take k).map (·.1)) b nb = false := by
            rw [hone.out]
            simp []
          have F := Lib.hid (FF.out hv)
          clear hv
          refine wp_region_grow (Only (fun _ => False)) (fun | _ => none) (by kernel_rfl) (by kernel_rfl) (Only.refl _) (fun _ _ _ => Only.trans) ?_ ?_
          · intro i V hV
            cases hV
          simp only [List.zipIdx_cons, List.zipIdx_nil, Nat.zero_add, Nat.reduceAdd]
          iterate 1 (refine grow_det ?_ rfl (fun w' => ?_) ?_; rotate_left 1; (unfold Runs; go_simp; rfl); try simp only [Act.put, List.setIfInBounds_toArray, List.set_cons_zero, List.set_cons_succ])
          refine grow_read (.int .i64 b) rfl (fun w' hr hf => ?_) ?_
          · have h1 := some_kept hr cb
            unfold Runs
            go_simp
          simp only [Act.put, List.setIfInBounds_toArray, List.set_cons_zero, List.set_cons_succ]
          iterate 3 (refine grow_det ?_ rfl (fun w' => ?_) ?_; rotate_left 1; (unfold Runs; go_simp; rfl); try simp only [Act.put, List.setIfInBounds_toArray, List.set_cons_zero, List.set_cons_succ])
          refine grow_read (.int .i64 at_) rfl (fun w' hr hf => ?_) ?_
          · have h1 := some_kept hr cat
            unfold Runs
            go_simp
          simp only [Act.put, List.setIfInBounds_toArray, List.set_cons_zero, List.set_cons_succ]
          refine grow_det (.bool false) rfl (fun w' => ?_) ?_
          · unfold Runs
            go_simp
            all_goals (first | rfl | (simp [h1]) | omega)
          simp only [Act.put, List.setIfInBounds_toArray, List.set_cons_zero, List.set_cons_succ]
          iterate 1 (refine grow_det ?_ rfl (fun w' => ?_) ?_; rotate_left 1; (unfold Runs; go_simp; rfl); try simp only [Act.put, List.setIfInBounds_toArray, List.set_cons_zero, List.set_cons_succ])
          iterate 10 (refine grow_det ?_ rfl (fun w' => ?_) ?_; rotate_left 1; (unfold Runs; go_simp; rfl); try simp only [Act.put, List.setIfInBounds_toArray, List.set_cons_zero, List.set_cons_succ])
          refine grow_end (fun w8 hr hf => ?_)
          clear hf
          have cb := some_kept hr cb
          have cs := some_kept hr cs
          have cat := some_kept hr cat
          have cd := some_kept hr cd
          have K := Lib.hid (K.out.drew.trans hr)
          clear hr
          go_wp2_with fail
          refine wp_region_grow (Only (fun _ => False)) (fun | 16 => some (fun v _ => v = undef) | _ => none) (by kernel_rfl) (by kernel_rfl) (Only.refl _) (fun _ _ _ => Only.trans) ?_ ?_
          · intro i V hV v w1 w2 hr hv
            split at hV
            · cases hV
              exact hv
            · cases hV
          simp only [List.zipIdx_cons, List.zipIdx_nil, Nat.zero_add, Nat.reduceAdd]
          iterate 5 (refine grow_det ?_ rfl (fun w' => ?_) ?_; rotate_left 1; (unfold Runs; go_simp; rfl); try simp only [Act.put, List.setIfInBounds_toArray, List.set_cons_zero, List.set_cons_succ])
          iterate 3 (refine grow_det ?_ rfl (fun w' => ?_) ?_; rotate_left 1; (unfold Runs; go_simp; rfl); try simp only [Act.put, List.setIfInBounds_toArray, List.set_cons_zero, List.set_cons_succ])
          iterate 2 (refine grow_det ?_ rfl (fun w' => ?_) ?_; rotate_left 1; (unfold Runs; go_simp; rfl); try simp only [Act.put, List.setIfInBounds_toArray, List.set_cons_zero, List.set_cons_succ])
          iterate 6 (refine grow_det ?_ rfl (fun w' => ?_) ?_; rotate_left 1; (unfold Runs; go_simp; rfl); try simp only [Act.put, List.setIfInBounds_toArray, List.set_cons_zero, List.set_cons_succ])
          refine grow_pred _ rfl (fun w' hr hf => ?_) (fun v => ?_)
          · unfold Gives
            go_simp
            exact Only.refl _ _
          simp only [Act.put, List.setIfInBounds_toArray, List.set_cons_zero, List.set_cons_succ]
          iterate 3 (refine grow_det ?_ rfl (fun w' => ?_) ?_; rotate_left 1; (unfold Runs; go_simp; rfl); try simp only [Act.put, List.setIfInBounds_toArray, List.set_cons_zero, List.set_cons_succ])
          iterate 5 (refine grow_det ?_ rfl (fun w' => ?_) ?_; rotate_left 1; (unfold Runs; go_simp; rfl); try simp only [Act.put, List.setIfInBounds_toArray, List.set_cons_zero, List.set_cons_succ])
          refine grow_end (fun w8 hr hf => ?_)
          have h9 := hf 16
          rw [upd_self] at h9
          subst h9
          clear hf
          have cb := some_kept hr cb
          have cs := some_kept hr cs
          have cat := some_kept hr cat
          have cd := some_kept hr cd
          have K := Lib.hid (K.out.drew.trans hr)
          clear hr
          go_wp2_with fail
          go_ret
          exact ⟨by rw [F.out]; rfl, O.out.trans K.out⟩
    · have hn := HN.out
      have hkl : k = l.length := by omega
      have hj : jMay D at_ l = decide ((l.length : Int) ≤ 192) := by
        have h1 := MT.out
        rw [hkl] at h1
        unfold jMay
        rw [h1, Bool.true_and]
        exact decide_eq_decide.2 (by omega)
      rw [← hn] at hj
      have HJ := Lib.hid hj
      clear hj hn hkl
      go_wp2_with fail
      go_ret
      exact ⟨by rw [HJ.out]; rfl, O.out⟩
end Go.Proofs.Ytpmlmjbhgonegaa
