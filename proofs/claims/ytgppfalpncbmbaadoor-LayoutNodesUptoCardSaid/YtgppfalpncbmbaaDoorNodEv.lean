/- LayoutNodes' plain law: what the program and the reference put, and take. -/
import Derived.Test.YtgppfalpncbmbaaDoorNodSpec
namespace Go.Proofs.YtgppfalpncbmbaaDoor.PN
open Go.RowKit Go.Proofs.YtgppfalpncbmbaaDoorW.PrintWords Go.Proofs.YtgppfalpncbmbaaDoorW.PrintLast Go.Proofs.YtgppfalpncbmbaaDoorW.PrintMore

theorem ev_data (a0 a1 : Int) : Ev (fun k => majordomoref03_data.f k a0 a1) (blocksF a0 a1) := by
  have hdiv : ∀ x n : Int, 0 ≤ x → x ≤ 10000 → 0 < n → n ≤ 64 → wrap64 (Int.tdiv (wrap64 (x + (n - 1))) n) = (x + (n - 1)) / n := by
    intro x n hx hx2 hn hn2
    rw [wv (x + (n - 1)) (x + (n - 1)) rfl (by omega) (by omega), Int.tdiv_eq_ediv_of_nonneg (by omega)]
    have h1 : 0 ≤ (x + (n - 1)) / n := Int.ediv_nonneg (by omega) (by omega)
    have h2 : (x + (n - 1)) / n ≤ x + (n - 1) := Int.ediv_le_self _ (by omega)
    exact wv _ _ rfl h1 (by omega)
  have d64 : ∀ x : Int, 0 ≤ x → x ≤ 10000 → wrap64 (Int.tdiv (wrap64 (x + 63)) 64) = (x + 63) / 64 := fun x h1 h2 => hdiv x 64 h1 h2 (by omega) (by omega)
  have d2 : ∀ x : Int, 0 ≤ x → x ≤ 10000 → wrap64 (Int.tdiv (wrap64 (x + 1)) 2) = (x + 1) / 2 := fun x h1 h2 => hdiv x 2 h1 h2 (by omega) (by omega)
  clear hdiv
  by_cases hs : a1 < 0
  · refine Ev.congr (f := fun _ => some (blocksF a0 a1)) (fun k => ?_) (Ev.now _)
    unfold majordomoref03_data.f blocksF
    rw [if_pos hs]
    repeat' split
    all_goals first | rfl | omega
  have j1t : 0 ≤ a1 → a1 ≤ 10000 → Ev (fun k => majordomoref03_data.j1 k a0 a1 true) ((a1 + 63) / 64) := by
    intro h1 h2
    refine Ev.step (f := fun _ => some ((a1 + 63) / 64)) (fun k => ?_) (Ev.now _)
    simp only [majordomoref03_data.j1]
    rw [if_pos trivial, d64 a1 h1 h2]
  have j1f : Ev (fun k => majordomoref03_data.j1 k a0 a1 false) (if a0 = 2 then (if a1 ≤ 16 then (a1 + 1) / 2 else -1) else -1) := by
    refine Ev.step (f := fun _ => some (if a0 = 2 then (if a1 ≤ 16 then (a1 + 1) / 2 else -1) else -1)) (fun k => ?_) (Ev.now _)
    simp only [majordomoref03_data.j1]
    rw [if_neg (by decide)]
    by_cases e2 : a0 = 2
    · rw [if_pos e2, if_pos e2]
      by_cases h16 : a1 ≤ 16
      · rw [if_pos h16, if_pos h16, d2 a1 (by omega) (by omega)]
      · rw [if_neg h16, if_neg h16]
    · rw [if_neg e2, if_neg e2]
  have j0f : Ev (fun k => majordomoref03_data.j0 k a0 a1 false) (if a0 = 3 ∧ a1 ≤ 120 then (a1 + 63) / 64 else (if a0 = 2 then (if a1 ≤ 16 then (a1 + 1) / 2 else -1) else -1)) := by
    by_cases e3 : a0 = 3
    · by_cases h120 : a1 ≤ 120
      · rw [if_pos ⟨e3, h120⟩]
        refine Ev.step (fun k => ?_) (j1t (by omega) (by omega))
        simp only [majordomoref03_data.j0]
        rw [if_neg (by decide), if_pos e3, decide_eq_true h120]
      · rw [if_neg (fun h => h120 h.2)]
        refine Ev.step (fun k => ?_) j1f
        simp only [majordomoref03_data.j0]
        rw [if_neg (by decide), if_pos e3, decide_eq_false h120]
    · rw [if_neg (fun h => e3 h.1)]
      refine Ev.step (fun k => ?_) j1f
      simp only [majordomoref03_data.j0]
      rw [if_neg (by decide), if_neg e3]
  by_cases e1 : a0 = 1 ∧ a1 ≤ 2432
  · have : blocksF a0 a1 = (a1 + 63) / 64 := by
      unfold blocksF
      rw [if_neg (by omega), if_neg (by omega), if_neg (by omega), if_pos e1.1, if_neg (by omega)]
    rw [this]
    refine Ev.congr (f := fun k => majordomoref03_data.j0 k a0 a1 true) (fun k => ?_) (Ev.step (fun k => ?_) (j1t (by omega) (by omega)))
    · unfold majordomoref03_data.f
      rw [if_neg hs, if_pos e1.1, decide_eq_true e1.2]
    · simp only [majordomoref03_data.j0]
      rw [if_pos trivial]
  · have : blocksF a0 a1 = (if a0 = 3 ∧ a1 ≤ 120 then (a1 + 63) / 64 else (if a0 = 2 then (if a1 ≤ 16 then (a1 + 1) / 2 else -1) else -1)) := by
      unfold blocksF
      repeat' split
      all_goals omega
    rw [this]
    refine Ev.congr (fun k => ?_) j0f
    unfold majordomoref03_data.f
    rw [if_neg hs]
    by_cases h1 : a0 = 1
    · rw [if_pos h1, decide_eq_false (fun h => e1 ⟨h1, h⟩)]
    · rw [if_neg h1]

theorem ev_ints_self (l : List Int) (hz : l.length ≤ 4611686018427387904) : Ev (fun k => majordomolaw03_ints.f k l l) true := by
  have hgo : ∀ (d i : Nat), i + d = l.length → Ev (fun k => majordomolaw03_ints.l0 k l l (i : Int)) true := by
    intro d
    induction d with
    | zero =>
      intro i hi
      refine Ev.step (f := fun _ => some true) (fun k => ?_) (Ev.now _)
      simp only [majordomolaw03_ints.l0]
      rw [if_neg (by omega)]
    | succ d ih =>
      intro i hi
      refine Ev.step (fun k => ?_) (ih (i + 1) (by omega))
      simp only [majordomolaw03_ints.l0]
      rw [if_pos (by omega), if_pos (by omega), if_pos (by omega), if_pos trivial, wv ((i : Int) + 1) ((i + 1 : Nat) : Int) (by omega) (by omega) (by omega)]
  unfold majordomolaw03_ints.f
  refine Ev.congr (fun k => ?_) (hgo l.length 0 (Nat.zero_add _))
  rw [if_pos rfl]
  rfl
theorem ev_same_self (a0 a1 a2 a4 : Int) (l : List Int) (hz : l.length ≤ 4611686018427387904) : Ev (fun k => majordomolaw03_same.f k a0 a1 a2 l a4 a0 a1 a2 l a4) true := by
  unfold majordomolaw03_same.f
  refine Ev.bind (ev_ints_self l hz) (Ev.congr (fun k => ?_) (Ev.now _))
  rw [if_pos rfl, if_pos rfl, if_pos rfl, if_pos rfl, beq_self_eq_true]
theorem refBlock_f (a : Int) : majordomoref03_block.f a = some (blkB a) := by
  unfold majordomoref03_block.f blkB
  by_cases h : a ≥ 1
  · rw [if_pos h, decide_eq_true (show 0 < a by omega), Bool.true_and]
  · rw [if_neg h, decide_eq_false (show ¬ 0 < a by omega), Bool.false_and]
theorem rd_get (l : List Int) (i : Nat) (h : i < l.length) : rd l (i : Int) = l[i] := by
  unfold rd
  rw [Int.toNat_natCast, List.getD_eq_getElem?_getD, List.getElem?_eq_getElem h]
  rfl
theorem ev_may_l0 (a0 a1 a2 mo : Int) (l : List Int) (hz : l.length ≤ 4611686018427387904) : ∀ (d i : Nat), i + d = l.length →
    Ev (fun k => majordomoref03_may.l0 k (l.length : Int) (i : Int) a0 a1 a2 l mo) ((l.drop i).all blkB && (if l.length > 6 then blkB mo else mo == 0)) := by
  intro d
  induction d with
  | zero =>
    intro i hi
    obtain rfl : i = l.length := by omega
    rw [List.drop_length, List.all_nil, Bool.true_and]
    refine Ev.step (f := fun _ => some (if l.length > 6 then blkB mo else mo == 0)) (fun k => ?_) (Ev.now _)
    simp only [majordomoref03_may.l0]
    rw [if_neg (by omega), refBlock_f]
    by_cases h6 : l.length > 6
    · rw [if_pos (by omega), if_pos h6, Option.bind_some]
      cases blkB mo with
      | true => rw [if_pos rfl]
      | false => rw [if_neg (by decide), if_neg (by omega)]
    · rw [if_neg (by omega), if_neg h6, if_pos (by omega)]
  | succ d ih =>
    intro i hi
    have hlt : i < l.length := by omega
    rw [List.drop_eq_getElem_cons hlt, List.all_cons]
    have hb : majordomoref03_block.f (rd l (i : Int)) = some (blkB l[i]) := by rw [refBlock_f, rd_get l i hlt]
    cases hx : blkB l[i] with
    | true =>
      rw [Bool.true_and]
      refine Ev.step (fun k => ?_) (ih (i + 1) (by omega))
      simp only [majordomoref03_may.l0]
      rw [if_pos (by omega), if_pos (by omega), if_pos (by omega), hb, hx, Option.bind_some, if_pos rfl, wv ((i : Int) + 1) ((i + 1 : Nat) : Int) (by omega) (by omega) (by omega)]
    | false =>
      refine Ev.step (f := fun _ => some false) (fun k => ?_) (Ev.now _)
      simp only [majordomoref03_may.l0]
      rw [if_pos (by omega), if_pos (by omega), if_pos (by omega), hb, hx, Option.bind_some, if_neg (by decide)]
theorem ev_may (a0 a1 a2 mo : Int) (l : List Int) (hz : l.length ≤ 4611686018427387904) : Ev (fun k => majordomoref03_may.f k a0 a1 a2 l mo) (nodeOk a0 a1 a2 l mo) := by
  have hbad : nodeOk a0 a1 a2 l mo = false → Ev (fun k => majordomoref03_may.j0 k (blocksF a0 a2) true a0 a1 a2 l mo) (nodeOk a0 a1 a2 l mo) := by
    intro h
    rw [h]
    refine Ev.step (f := fun _ => some false) (fun k => ?_) (Ev.now _)
    simp only [majordomoref03_may.j0]
    rw [if_pos trivial]
  have hno : ¬ Ok a0 a1 a2 l mo → nodeOk a0 a1 a2 l mo = false := fun h => by
    rw [Bool.eq_false_iff]
    exact fun e => h (ok_iff.1 e)
  unfold majordomoref03_may.f
  refine Ev.bind (ev_data a0 a2) ?_
  by_cases h1 : blocksF a0 a2 < 0
  · exact Ev.congr (fun k => by rw [if_pos h1]) (hbad (hno fun o => by have := o.n; omega))
  by_cases h2 : a1 < 0
  · exact Ev.congr (fun k => by rw [if_neg h1, if_pos h2]) (hbad (hno fun o => by have := o.m0; omega))
  by_cases h3 : a1 > 4095
  · exact Ev.congr (fun k => by rw [if_neg h1, if_neg h2, if_pos h3]) (hbad (hno fun o => by have := o.m1; omega))
  by_cases h4 : (l.length : Int) = blocksF a0 a2
  · have hl0 := ev_may_l0 a0 a1 a2 mo l hz l.length 0 (Nat.zero_add _)
    rw [List.drop_zero] at hl0
    have he : nodeOk a0 a1 a2 l mo = (l.all blkB && (if l.length > 6 then blkB mo else mo == 0)) := by
      have hb : ∀ b : Int, blkB b = true ↔ 1 ≤ b ∧ b < 4096 := fun b => by
        unfold blkB
        simp only [Bool.and_eq_true, decide_eq_true_eq]
        omega
      rw [Bool.eq_iff_iff, ok_iff, Bool.and_eq_true, List.all_eq_true]
      constructor
      · intro o
        refine ⟨fun b hm => (hb b).2 (o.bl b hm), ?_⟩
        by_cases h6 : l.length > 6
        · rw [if_pos h6]; exact (hb mo).2 (o.far h6)
        · rw [if_neg h6, o.near (by omega)]; rfl
      · rintro ⟨hbl, hf⟩
        refine ⟨h4.symm, fun b hm => (hb b).1 (hbl b hm), by omega, by omega, fun h6 => ?_, fun h6 => ?_⟩
        · rw [if_pos h6] at hf; exact (hb mo).1 hf
        · rw [if_neg (by omega)] at hf; simpa using hf
    rw [he, ← h4]
    refine Ev.congr (f := fun k => majordomoref03_may.j0 k (l.length : Int) false a0 a1 a2 l mo) (fun k => ?_) (Ev.step (fun k => ?_) hl0)
    · rw [if_neg (by omega), if_neg h2, if_neg h3, show ((l.length : Int) != (l.length : Int)) = false by simp]
    · simp only [majordomoref03_may.j0]
      rw [if_neg (by decide)]
      rfl
  · refine Ev.congr (fun k => ?_) (hbad (hno fun o => h4 o.n.symm))
    rw [if_neg h1, if_neg h2, if_neg h3, show ((l.length : Int) != blocksF a0 a2) = true by simpa using h4]
theorem two_f (l : List Int) (v : Int) (hl : l.length ≤ 1000) (h0 : 0 ≤ v) (h1 : v < 65536) : majordomoref03_two.f l v = some (l ++ be v) := by
  unfold majordomoref03_two.f be
  rw [Option.bind_some, Int.tdiv_eq_ediv_of_nonneg h0, Int.tmod_eq_emod_of_nonneg h0, wv (v / 256) (v / 256) rfl (by omega) (by omega), if_pos (by simp only [List.length_cons, List.length_nil]; omega)]
  congr 3
  congr 1
  omega
theorem ev_pad (n : Nat) (hn : n ≤ 1000) : ∀ (d : Nat) (x : List Int), x.length + d = n → Ev (fun k => majordomoref03_pad.f k x (n : Int)) (x ++ List.replicate d 0) := by
  intro d
  induction d with
  | zero =>
    intro x hx
    unfold majordomoref03_pad.f
    refine Ev.step (f := fun _ => some (x ++ List.replicate 0 0)) (fun k => ?_) (Ev.now _)
    simp only [majordomoref03_pad.l0]
    rw [if_neg (by omega), List.replicate_zero, List.append_nil]
  | succ d ih =>
    intro x hx
    have h := ih (x ++ [0]) (by rw [List.length_append]; simp only [List.length_singleton]; omega)
    unfold majordomoref03_pad.f at h ⊢
    rw [List.append_assoc, show [(0 : Int)] ++ List.replicate d 0 = List.replicate (d + 1) 0 from rfl] at h
    refine Ev.step (fun k => ?_) h
    simp only [majordomoref03_pad.l0]
    rw [if_pos (by omega), if_pos (by omega)]
theorem ev_refPut_l0 (a0 a1 a2 mo : Int) (l : List Int) (hd : List Int) (h7 : hd.length = 7) (hl : l.length ≤ 38) (hb : ∀ b ∈ l, 0 ≤ b ∧ b < 4096) : ∀ (d i : Nat), i + d = l.length →
    Ev (fun k => majordomoref03_PutNode.l0 k (hd ++ bes ((l.take i).take 6)) (bes ((l.take i).drop 6)) (i : Int) a0 a1 a2 l mo)
      (hd ++ bes (l.take 6) ++ List.replicate (25 - 2 * (l.take 6).length) 0, if l.length > 6 then bes (l.drop 6) ++ List.replicate (64 - 2 * (l.drop 6).length) 0 else [], 0) := by
  intro d
  induction d with
  | zero =>
    intro i hi
    obtain rfl : i = l.length := by omega
    rw [List.take_length]
    have h6 : (l.take 6).length ≤ 6 := by rw [List.length_take]; omega
    have h32 : (l.drop 6).length = l.length - 6 := List.length_drop
    have p1 := ev_pad 32 (by omega) (25 - 2 * (l.take 6).length) (hd ++ bes (l.take 6)) (by rw [List.length_append, bes_len]; omega)
    have p2 := ev_pad 64 (by omega) (64 - 2 * (l.drop 6).length) (bes (l.drop 6)) (by rw [bes_len]; omega)
    by_cases hf : l.length > 6
    · rw [if_pos hf]
      refine Ev.step (f := fun k => (majordomoref03_pad.f k (bes (l.drop 6)) 64).bind fun t225 => (majordomoref03_pad.f k (hd ++ bes (l.take 6)) 32).bind fun t228 => some (t228, t225, 0)) (fun k => ?_) (Ev.bind p2 (Ev.bind p1 (Ev.now _)))
      simp only [majordomoref03_PutNode.l0]
      rw [if_neg (by omega), if_pos (by rw [bes_len]; omega)]
    · rw [if_neg hf]
      have e : bes (l.drop 6) = [] := by rw [List.drop_eq_nil_of_le (by omega)]; rfl
      rw [e]
      refine Ev.step (f := fun k => (majordomoref03_pad.f k (hd ++ bes (l.take 6)) 32).bind fun t231 => some (t231, [], 0)) (fun k => ?_) (Ev.bind p1 (Ev.now _))
      simp only [majordomoref03_PutNode.l0]
      rw [if_neg (by omega), if_neg (by simp)]
  | succ d ih =>
    intro i hi
    have hlt : i < l.length := by omega
    have hx := hb _ (List.getElem_mem hlt)
    have ht : l.take (i + 1) = l.take i ++ [l[i]] := by rw [List.take_add_one, List.getElem?_eq_getElem hlt]; rfl
    have hti : (l.take i).length = i := by rw [List.length_take]; omega
    have ih' := ih (i + 1) (by omega)
    rw [ht] at ih'
    by_cases h6 : i < 6
    · have e1 : (l.take i ++ [l[i]]).take 6 = (l.take i).take 6 ++ [l[i]] := by rw [List.take_of_length_le (show (l.take i ++ [l[i]]).length ≤ 6 by rw [List.length_append, hti]; simp only [List.length_singleton]; omega), List.take_of_length_le (show (l.take i).length ≤ 6 by omega)]
      have e2 : (l.take i ++ [l[i]]).drop 6 = (l.take i).drop 6 := by rw [List.drop_eq_nil_of_le (show (l.take i ++ [l[i]]).length ≤ 6 by rw [List.length_append, hti]; simp only [List.length_singleton]; omega), List.drop_eq_nil_of_le (show (l.take i).length ≤ 6 by omega)]
      rw [e1, e2, bes_append, ← List.append_assoc, show bes [l[i]] = be l[i] from List.append_nil _] at ih'
      refine Ev.step (fun k => ?_) ih'
      simp only [majordomoref03_PutNode.l0]
      rw [if_pos (by omega), if_pos (by omega), if_pos (by omega), rd_get l i hlt, two_f _ _ (by rw [List.length_append, bes_len, List.length_take]; omega) hx.1 (by omega), Option.bind_some, wv ((i : Int) + 1) ((i + 1 : Nat) : Int) (by omega) (by omega) (by omega)]
    · have e1 : (l.take i ++ [l[i]]).take 6 = (l.take i).take 6 := List.take_append_of_le_length (by omega)
      have e2 : (l.take i ++ [l[i]]).drop 6 = (l.take i).drop 6 ++ [l[i]] := List.drop_append_of_le_length (by omega)
      rw [e1, e2, bes_append, show bes [l[i]] = be l[i] from List.append_nil _] at ih'
      refine Ev.step (fun k => ?_) ih'
      simp only [majordomoref03_PutNode.l0]
      rw [if_pos (by omega), if_neg (by omega), if_pos (by omega), rd_get l i hlt, two_f _ _ (by rw [bes_len, List.length_drop]; omega) hx.1 (by omega), Option.bind_some, wv ((i : Int) + 1) ((i + 1 : Nat) : Int) (by omega) (by omega) (by omega)]
/-- What either puts. -/
def putF (k m s : Int) (l : List Int) (mo : Int) : List Int × List Int × Int :=
  if nodeOk k m s l mo then (nodeBytes k m s l mo, if blocksF k s > 6 then moreBytes l else [], 0) else ([], [], 1)
theorem put_f (k m s : Int) (l : List Int) (mo : Int) (hz : l.length ≤ 4611686018427387904) : layout_PutNode.f k m s l mo = some (putF k m s l mo) := by
  unfold layout_PutNode.f putF
  rw [if_pos hz]
theorem ev_refPut (k m s : Int) (l : List Int) (mo : Int) (hz : l.length ≤ 4611686018427387904) : Ev (fun n => majordomoref03_PutNode.f n k m s l mo) (putF k m s l mo) := by
  unfold majordomoref03_PutNode.f
  refine Ev.bind (ev_may k m s mo l hz) ?_
  unfold putF
  cases hok : nodeOk k m s l mo with
  | false =>
    refine Ev.congr (fun n => ?_) (Ev.now _)
    rw [if_neg (by decide), if_neg (by decide)]
  | true =>
    have o := ok_iff.1 hok
    have ok := o.kind
    have om := o.mo
    have ol := o.len
    rw [if_pos rfl]
    have hbl : ∀ b ∈ l, 0 ≤ b ∧ b < 4096 := fun b hm => by have := o.bl b hm; omega
    have hgo := ev_refPut_l0 k m s mo l ([k % 256] ++ be m ++ be s ++ be mo) rfl ol hbl l.length 0 (Nat.zero_add _)
    rw [List.take_zero] at hgo
    rw [head_bytes, more_bytes l ol]
    have e : (if blocksF k s > 6 then bes (l.drop 6) ++ List.replicate (64 - 2 * (l.drop 6).length) 0 else []) = (if l.length > 6 then bes (l.drop 6) ++ List.replicate (64 - 2 * (l.drop 6).length) (0 : Int) else []) := by
      have := o.n
      by_cases h6 : l.length > 6
      · rw [if_pos h6, if_pos (by omega)]
      · rw [if_neg h6, if_neg (by omega)]
    rw [e]
    refine Ev.congr (fun n => ?_) hgo
    have hm0 := o.m0
    have hm1 := o.m1
    rw [if_pos rfl, two_f _ m (by simp) hm0 (by omega), Option.bind_some, two_f _ s (by simp [be]) ok.2.2.1 (by omega), Option.bind_some, two_f _ mo (by simp [be]) om.1 (by omega), Option.bind_some]
    rfl
end Go.Proofs.YtgppfalpncbmbaaDoor.PN
