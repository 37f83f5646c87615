/- LayoutNodes' plain law: what is put is taken back; the law. -/
import Derived.Test.YtgppfalpncbmbaaDoorNodEv
namespace Go.Proofs.YtgppfalpncbmbaaDoor.PN
open Go.RowKit Go.Proofs.YtgppfalpncbmbaaDoorW.PrintWords Go.Proofs.YtgppfalpncbmbaaDoorW.PrintLast Go.Proofs.YtgppfalpncbmbaaDoorW.PrintMore

set_option maxRecDepth 100000 in
theorem taken_fin : ∀ v : Fin 4096, Go.bits .or .i64 (wrap64 ((wrap64 ((v.1 : Int) / 256 % 256)) * 256)) (wrap64 ((v.1 : Int) % 256)) = (v.1 : Int) := by decide +kernel
theorem taken_f (v : Int) (h0 : 0 ≤ v) (h1 : v < 4096) (r : List Int) : layout_taken.f (be v ++ r) = some v := by
  obtain ⟨n, rfl⟩ := Int.eq_ofNat_of_zero_le h0
  have h := taken_fin ⟨n, by omega⟩
  simp only at h
  unfold layout_taken.f be
  rw [if_pos (by simp only [List.length_append, List.length_cons]; omega), if_pos (by simp only [List.length_append, List.length_cons]; omega)]
  exact congrArg some h
theorem bes_drop : ∀ (l : List Int) (i : Nat) (h : i < l.length), (bes l).drop (2 * i) = be l[i] ++ bes (l.drop (i + 1)) := by
  intro l
  induction l with
  | nil => intro i h; simp at h
  | cons v r ih =>
    intro i h
    cases i with
    | zero => rfl
    | succ i =>
      rw [bes_cons, show 2 * (i + 1) = 2 + 2 * i by omega, ← List.drop_drop, List.drop_left' (show (be v).length = 2 from rfl), ih i (by simpa using h)]
      rfl
theorem bes_zeros (j : Nat) : bes (List.replicate j 0) = List.replicate (2 * j) 0 := by
  induction j with
  | zero => rfl
  | succ j ih => rw [List.replicate_succ, bes_cons, ih, show 2 * (j + 1) = 2 * j + 1 + 1 by omega, List.replicate_succ, List.replicate_succ]; rfl
/-- What is put of the first numbers alone, and any others. -/
theorem ok_ones {k m s mo : Int} {l : List Int} (o : Ok k m s l mo) : Ok k m s (l.take 6 ++ List.replicate (l.length - 6) 1) mo := by
  have hl : (l.take 6 ++ List.replicate (l.length - 6) (1 : Int)).length = l.length := by rw [List.length_append, List.length_take, List.length_replicate]; omega
  refine ⟨by rw [hl]; exact o.n, fun b hb => ?_, o.m0, o.m1, by rw [hl]; exact o.far, by rw [hl]; exact o.near⟩
  rcases List.mem_append.1 hb with h | h
  · exact o.bl b (List.mem_of_mem_take h)
  · rw [List.eq_of_mem_replicate h]; omega
theorem take_ones (l : List Int) : (l.take 6 ++ List.replicate (l.length - 6) (1 : Int)).take 6 = l.take 6 := by
  by_cases h : l.length ≤ 6
  · rw [show l.length - 6 = 0 by omega, List.replicate_zero, List.append_nil, List.take_of_length_le (by rw [List.length_take]; omega)]
  · rw [List.take_append_of_le_length (by rw [List.length_take]; omega), List.take_of_length_le (by rw [List.length_take]; omega)]
theorem put_ones {k m s mo : Int} {l : List Int} (o : Ok k m s l mo) : ∃ y, layout_PutNode.f k m s (l.take 6 ++ List.replicate (l.length - 6) 1) mo = some (nodeBytes k m s l mo, y, 0) := by
  have o2 := ok_ones o
  have hz := o2.len
  rw [put_f _ _ _ _ _ (by omega)]
  unfold putF
  rw [if_pos (ok_iff.2 o2), head_bytes, head_bytes, take_ones]
  exact ⟨_, rfl⟩
theorem ev_TakeNode_l0 {k m s mo : Int} {l : List Int} (o : Ok k m s l mo) : ∀ (d i : Nat), i + d = (l.take 6).length →
    Ev (fun n => layout_TakeNode.l0 n (nodeBytes k m s l mo) (blocksF k s) ((l.take 6).length : Int) (i : Int) k m s ((l.take 6).take i) mo) (k, m, s, l.take 6, mo, ((l.length - 6 : Nat) : Int), 0) := by
  have hn := o.n
  have hlen := o.len
  have h6 : (l.take 6).length ≤ 6 := by rw [List.length_take]; omega
  have hmx : mx 0 (wrap64 (blocksF k s - 6)) = ((l.length - 6 : Nat) : Int) := by
    rw [hn]
    unfold mx wrap64
    split <;> omega
  intro d
  induction d with
  | zero =>
    intro i hi
    obtain rfl : i = (l.take 6).length := by omega
    rw [List.take_length]
    obtain ⟨y, hy⟩ := put_ones o
    have hc : slices_Clone_int_int.f (l.take 6) = some (l.take 6) := by unfold slices_Clone_int_int.f; rw [if_pos (by omega)]
    have hr : slices_Repeat_int_int.f [1] ((l.length - 6 : Nat) : Int) = some (List.replicate (l.length - 6) 1) := by
      unfold slices_Repeat_int_int.f
      rw [if_pos ⟨rfl, by omega, by omega⟩, Int.toNat_natCast]
      rfl
    refine Ev.step (f := fun _ => some (k, m, s, l.take 6, mo, ((l.length - 6 : Nat) : Int), 0)) (fun n => ?_) (Ev.now _)
    simp only [layout_TakeNode.l0]
    rw [if_neg (by omega), hmx, hc, Option.bind_some, hr, Option.bind_some, if_pos (by rw [List.length_replicate]; omega), hy, Option.bind_some, if_pos rfl, if_pos rfl]
  | succ d ih =>
    intro i hi
    have hlt : i < (l.take 6).length := by omega
    have hb : ∀ b ∈ l.take 6, 1 ≤ b ∧ b < 4096 := fun b h => o.bl b (List.mem_of_mem_take h)
    have hx := hb _ (List.getElem_mem hlt)
    have ht : (l.take 6).take (i + 1) = (l.take 6).take i ++ [(l.take 6)[i]] := by rw [List.take_add_one, List.getElem?_eq_getElem hlt]; rfl
    have ih' := ih (i + 1) (by omega)
    rw [ht] at ih'
    have hd : (nodeBytes k m s l mo).drop (7 + 2 * i) = be (l.take 6)[i] ++ (bes ((l.take 6).drop (i + 1)) ++ List.replicate (25 - 2 * (l.take 6).length) 0) := by
      rw [head_bytes, List.append_assoc _ (bes (l.take 6)) _, ← List.drop_drop, List.drop_left' (show ([k % 256] ++ bes [m, s, mo]).length = 7 from rfl), List.drop_append_of_le_length (by rw [bes_len]; omega), bes_drop _ i hlt, List.append_assoc]
    have hln : (nodeBytes k m s l mo).length = 32 := by
      rw [head_bytes, List.length_append, List.length_append, bes_len, List.length_replicate, show ([k % 256] ++ bes [m, s, mo]).length = 7 from rfl]
      omega
    refine Ev.step (fun n => ?_) ih'
    simp only [layout_TakeNode.l0]
    rw [wv (2 * (i : Int)) ((2 * i : Nat) : Int) (by omega) (by omega) (by omega), wv (7 + ((2 * i : Nat) : Int)) ((7 + 2 * i : Nat) : Int) (by omega) (by omega) (by omega), Int.toNat_natCast, hd, taken_f _ (by omega) (by omega), Option.bind_some]
    clear hd
    rw [if_pos (by omega), if_pos (by omega), if_pos (by omega), if_pos (by rw [List.length_take]; omega), wv ((i : Int) + 1) ((i + 1 : Nat) : Int) (by omega) (by omega) (by omega)]
theorem ev_TakeNode {k m s mo : Int} {l : List Int} (o : Ok k m s l mo) : Ev (fun n => layout_TakeNode.f n (nodeBytes k m s l mo)) (k, m, s, l.take 6, mo, ((l.length - 6 : Nat) : Int), 0) := by
  have hgo := ev_TakeNode_l0 o (l.take 6).length 0 (Nat.zero_add _)
  have ok := o.kind
  have om := o.mo
  have hm0 := o.m0
  have hm1 := o.m1
  have hn := o.n
  have h6 : (l.take 6).length ≤ 6 := by rw [List.length_take]; omega
  have hln : (nodeBytes k m s l mo).length = 32 := by
    rw [head_bytes, List.length_append, List.length_append, bes_len, List.length_replicate, show ([k % 256] ++ bes [m, s, mo]).length = 7 from rfl]
    omega
  have d1 : ∃ r, (nodeBytes k m s l mo).drop 1 = be m ++ r := by rw [head_bytes]; exact ⟨_, rfl⟩
  have d3 : ∃ r, (nodeBytes k m s l mo).drop 3 = be s ++ r := by rw [head_bytes]; exact ⟨_, rfl⟩
  have d5 : ∃ r, (nodeBytes k m s l mo).drop 5 = be mo ++ r := by rw [head_bytes]; exact ⟨_, rfl⟩
  have r0 : rd (nodeBytes k m s l mo) 0 = k % 256 := by rw [head_bytes]; rfl
  obtain ⟨x1, e1⟩ := d1
  obtain ⟨x3, e3⟩ := d3
  obtain ⟨x5, e5⟩ := d5
  unfold layout_TakeNode.f
  refine Ev.congr (fun n => ?_) hgo
  rw [e1, e3, e5, taken_f m hm0 (by omega), taken_f s ok.2.2.1 (by omega), taken_f mo om.1 om.2, r0, wv (k % 256) k (by omega) (by omega) (by omega)]
  simp only [Option.bind_some]
  unfold layout_blocks.f
  rw [if_pos (by omega), if_pos (by omega), if_pos (by omega), if_pos (by omega), if_pos (by omega), Option.bind_some, if_neg (by omega)]
  have hmn : mn (blocksF k s) 6 = ((l.take 6).length : Int) := by
    rw [hn, List.length_take]
    unfold mn
    split <;> omega
  rw [hmn]
  rfl
theorem ev_TakeMore_l0 (x all rest : List Int) (hx : x = bes all) (hall : all = rest ++ List.replicate (32 - rest.length) 0) (hl : rest.length ≤ 32) (hb : ∀ b ∈ rest, 1 ≤ b ∧ b < 4096) : ∀ (d i : Nat), i + d = 32 →
    Ev (fun n => layout_TakeMore.l0 n x (rest.length : Int) (rest.take i) (i : Int)) (rest, 0) := by
  have hlen : all.length = 32 := by rw [hall, List.length_append, List.length_replicate]; omega
  have hxl : x.length = 64 := by rw [hx, bes_len, hlen]
  intro d
  induction d with
  | zero =>
    intro i hi
    obtain rfl : i = 32 := by omega
    rw [List.take_of_length_le hl]
    refine Ev.step (f := fun _ => some (rest, 0)) (fun n => ?_) (Ev.now _)
    simp only [layout_TakeMore.l0]
    rw [if_neg (by omega)]
  | succ d ih =>
    intro i hi
    have hlt : i < all.length := by omega
    have ih' := ih (i + 1) (by omega)
    have hd : x.drop (2 * i) = be all[i] ++ bes (all.drop (i + 1)) := by rw [hx, bes_drop all i hlt]
    by_cases hr : i < rest.length
    · have hg : all[i] = rest[i] := by
        have : all[i]? = rest[i]? := by rw [hall, List.getElem?_append_left hr]
        rw [List.getElem?_eq_getElem hlt, List.getElem?_eq_getElem hr] at this
        exact Option.some.inj this
      have hv := hb _ (List.getElem_mem hr)
      have ht : rest.take (i + 1) = rest.take i ++ [rest[i]] := by rw [List.take_add_one, List.getElem?_eq_getElem hr]; rfl
      rw [hg] at hd
      rw [ht] at ih'
      refine Ev.step (f := fun n => layout_TakeMore.j2 n x (rest.length : Int) (rest.take i) (i : Int) rest[i] (i : Int) false) (fun n => ?_) (Ev.step (fun n => ?_) ih')
      · simp only [layout_TakeMore.l0]
        rw [wv (2 * (i : Int)) ((2 * i : Nat) : Int) (by omega) (by omega) (by omega), Int.toNat_natCast, hd, taken_f _ (by omega) (by omega), Option.bind_some]
        clear hd
        rw [if_pos (by omega), if_pos (by omega), if_pos (by omega), if_neg (by omega)]
      · simp only [layout_TakeMore.j2]
        have hbl : layout_block.f rest[i] = some true := by
          unfold layout_block.f
          rw [if_pos (by omega), decide_eq_true (by omega)]
        rw [if_neg (by decide), if_pos (by omega), hbl, Option.bind_some, if_pos rfl, if_pos (by rw [List.length_take]; omega), wv ((i : Int) + 1) ((i + 1 : Nat) : Int) (by omega) (by omega) (by omega)]
    · have hg : all[i] = 0 := by
        have : all[i]? = some 0 := by rw [hall, List.getElem?_append_right (by omega), List.getElem?_replicate, if_pos (by omega)]
        rw [List.getElem?_eq_getElem hlt] at this
        exact Option.some.inj this
      rw [hg] at hd
      rw [List.take_of_length_le (by omega)] at ih' ⊢
      refine Ev.step (f := fun n => layout_TakeMore.j2 n x (rest.length : Int) rest (i : Int) 0 (i : Int) true) (fun n => ?_) (Ev.step (fun n => ?_) ih')
      · simp only [layout_TakeMore.l0]
        rw [wv (2 * (i : Int)) ((2 * i : Nat) : Int) (by omega) (by omega) (by omega), Int.toNat_natCast, hd, taken_f _ (by omega) (by omega), Option.bind_some]
        clear hd
        rw [if_pos (by omega), if_pos (by omega), if_pos (by omega), if_pos (by omega)]
        rfl
      · simp only [layout_TakeMore.j2]
        rw [if_pos trivial, wv ((i : Int) + 1) ((i + 1 : Nat) : Int) (by omega) (by omega) (by omega)]
theorem ev_TakeMore {k m s mo : Int} {l : List Int} (o : Ok k m s l mo) (h6 : 6 < l.length) : Ev (fun n => layout_TakeMore.f n (moreBytes l) ((l.length - 6 : Nat) : Int)) (l.drop 6, 0) := by
  have hl := o.len
  have hr : (l.drop 6).length = l.length - 6 := List.length_drop
  have hx : moreBytes l = bes (l.drop 6 ++ List.replicate (32 - (l.drop 6).length) 0) := by
    rw [more_bytes l hl, bes_append, bes_zeros]
    congr 2
    omega
  have hgo := ev_TakeMore_l0 (moreBytes l) _ (l.drop 6) hx rfl (by omega) (fun b hb => o.bl b (List.mem_of_mem_drop hb)) 32 0 rfl
  rw [List.take_zero, hr] at hgo
  have hlen : (moreBytes l).length = 64 := by rw [hx, bes_len, List.length_append, List.length_replicate]; omega
  unfold layout_TakeMore.f
  refine Ev.congr (f := fun n => layout_TakeMore.j0 n (moreBytes l) ((l.length - 6 : Nat) : Int) false) (fun n => ?_) (Ev.step (fun n => ?_) hgo)
  · rw [if_pos (by omega), if_neg (by omega), decide_eq_false (by omega)]
  · simp only [layout_TakeMore.j0]
    rw [if_neg (by decide)]
    rfl
theorem bind_same (x : Option Bool) : (x.bind fun t => some t) = x := by cases x <;> rfl
theorem ev_LayoutNodes (k m s mo : Int) (l : List Int) (hz : l.length ≤ 1048576) : Ev (fun n => majordomolaw03_LayoutNodes.f n k m s l mo) true := by
  unfold majordomolaw03_LayoutNodes.f
  refine Ev.bind ev_shown ?_
  refine Ev.congr (f := fun n => (layout_PutNode.f k m s l mo).bind fun bt287 => ((majordomoref03_PutNode.f n k m s l mo).bind fun bt294 => ((majordomolaw03_same.f n k m s l mo k m s l mo).bind fun t301 => (if (strOfNums bt287.1).toList = (strOfNums bt294.1).toList then (if (strOfNums bt287.2.1).toList = (strOfNums bt294.2.1).toList then (if bt287.2.2 = bt294.2.2 then (majordomolaw03_LayoutNodes.j0 n bt287.1 bt287.2.1 bt287.2.2 (!t301) k m s l mo) else (majordomolaw03_LayoutNodes.j0 n bt287.1 bt287.2.1 bt287.2.2 true k m s l mo)) else (majordomolaw03_LayoutNodes.j0 n bt287.1 bt287.2.1 bt287.2.2 true k m s l mo)) else (majordomolaw03_LayoutNodes.j0 n bt287.1 bt287.2.1 bt287.2.2 true k m s l mo))))) (fun n => ?_) ?_
  · rw [Option.bind_some, if_pos (by simp only [List.length_nil]; omega), Option.bind_some, List.nil_append]
    simp only [if_true]
  rw [put_f k m s l mo (by omega)]
  simp only [Option.bind_some]
  refine Ev.bind (ev_refPut k m s l mo (by omega)) (Ev.bind (ev_same_self k m s mo l (by omega)) ?_)
  refine Ev.congr (f := fun n => majordomolaw03_LayoutNodes.j0 n (putF k m s l mo).1 (putF k m s l mo).2.1 (putF k m s l mo).2.2 false k m s l mo) (fun n => by rw [if_pos rfl, if_pos rfl, if_pos rfl]; rfl) ?_
  unfold putF
  cases hok : nodeOk k m s l mo with
  | false =>
    refine Ev.step (f := fun _ => some true) (fun n => ?_) (Ev.now _)
    simp only [majordomolaw03_LayoutNodes.j0, Bool.false_eq_true, if_false]
    rw [if_neg (by decide)]
  | true =>
    have o := ok_iff.1 hok
    have hn := o.n
    have hl := o.len
    have hmx : mx 0 (wrap64 ((l.length : Int) - 6)) = ((l.length - 6 : Nat) : Int) := by
      unfold mx wrap64
      split <;> omega
    have hmn : (((l.take 6).length : Int) != mn 6 (l.length : Int)) = false := by
      have : mn 6 (l.length : Int) = ((l.take 6).length : Int) := by
        rw [List.length_take]
        unfold mn
        split <;> omega
      rw [this]
      simp
    simp only [if_true]
    refine Ev.step (f := fun n => (layout_TakeNode.f n (nodeBytes k m s l mo)).bind fun bt302 => (if bt302.2.2.2.2.2.2 = 0 then (if bt302.2.2.2.2.2.1 = (mx 0 (wrap64 ((l.length : Int) - 6))) then (majordomolaw03_LayoutNodes.j1 n (if blocksF k s > 6 then moreBytes l else []) bt302.2.2.2.2.2.1 ((bt302.2.2.2.1.length : Int) != (mn 6 (l.length : Int))) k m s l mo bt302.1 bt302.2.1 bt302.2.2.1 bt302.2.2.2.1 bt302.2.2.2.2.1) else (majordomolaw03_LayoutNodes.j1 n (if blocksF k s > 6 then moreBytes l else []) bt302.2.2.2.2.2.1 true k m s l mo bt302.1 bt302.2.1 bt302.2.2.1 bt302.2.2.2.1 bt302.2.2.2.2.1)) else (majordomolaw03_LayoutNodes.j1 n (if blocksF k s > 6 then moreBytes l else []) bt302.2.2.2.2.2.1 true k m s l mo bt302.1 bt302.2.1 bt302.2.2.1 bt302.2.2.2.1 bt302.2.2.2.2.1))) (fun n => ?_) (Ev.bind (ev_TakeNode o) ?_)
    · simp only [majordomolaw03_LayoutNodes.j0]
      rw [if_neg (by decide), if_pos trivial]
    refine Ev.congr (f := fun n => majordomolaw03_LayoutNodes.j1 n (if blocksF k s > 6 then moreBytes l else []) ((l.length - 6 : Nat) : Int) false k m s l mo k m s (l.take 6) mo) (fun n => ?_) ?_
    · dsimp only
      rw [if_pos rfl, hmx, if_pos rfl, hmn]
    by_cases h6 : 6 < l.length
    · rw [if_pos (by omega)]
      refine Ev.step (f := fun n => (layout_TakeMore.f n (moreBytes l) ((l.length - 6 : Nat) : Int)).bind fun bt312 => (if bt312.2 = 0 then (if (l.take 6).length + bt312.1.length < 17592186044416 then ((majordomolaw03_same.f n k m s (l.take 6 ++ bt312.1) mo k m s l mo).bind fun t319 => (some t319)) else (none)) else (some false))) (fun n => ?_) (Ev.bind (ev_TakeMore o h6) ?_)
      · simp only [majordomolaw03_LayoutNodes.j1]
        rw [if_neg (by decide), if_pos (by omega)]
      · refine Ev.congr (fun n => ?_) (ev_same_self k m s mo l (by omega))
        rw [if_pos rfl, if_pos (by rw [List.length_take, List.length_drop]; omega), List.take_append_drop]
        exact bind_same _
    · refine Ev.step (f := fun n => majordomolaw03_same.f n k m s l mo k m s l mo) (fun n => ?_) (ev_same_self k m s mo l (by omega))
      simp only [majordomolaw03_LayoutNodes.j1]
      rw [if_neg (by decide), if_neg (by omega), List.take_of_length_le (by omega)]
      exact bind_same _
end Go.Proofs.YtgppfalpncbmbaaDoor.PN
