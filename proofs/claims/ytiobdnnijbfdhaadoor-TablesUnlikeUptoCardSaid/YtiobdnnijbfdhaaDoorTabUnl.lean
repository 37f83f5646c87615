/- TablesUnlike: no two tables' rows have the same text. -/
import Derived.Test.YtiobdnnijbfdhaaDoorTabSpec
import Derived.Test.YtiobdnnijbfdhaaDoorTabShown
namespace Go.Proofs.YtiobdnnijbfdhaaDoor.PT
open Go.Proofs.YtiobdnnijbfdhaaDoor (cellOf)
open Go.RowKit Go.Proofs.YtiobdnnijbfdhaaDoorW.PrintWords Go.Proofs.YtiobdnnijbfdhaaDoorW.PrintLast Go.Proofs.YtiobdnnijbfdhaaDoorW.PrintMore
set_option linter.unusedVariables false
set_option linter.unusedSimpArgs false
theorem cut_at {α : Type} {c : α} : ∀ (u v s t : List α), c ∉ u → c ∉ v → u ++ c :: s = v ++ c :: t → u = v ∧ s = t
  | [], [], s, t, _, _, h => by injection h with _ h; exact ⟨rfl, h⟩
  | [], y :: v, s, t, _, hv, h => by injection h with h1 _; exact absurd (h1 ▸ List.mem_cons_self) hv
  | x :: u, [], s, t, hu, _, h => by injection h with h1 _; exact absurd (h1 ▸ List.mem_cons_self) hu
  | x :: u, y :: v, s, t, hu, hv, h => by
    injection h with h1 h2
    obtain ⟨h3, h4⟩ := cut_at u v s t (fun e => hu (List.mem_cons_of_mem _ e)) (fun e => hv (List.mem_cons_of_mem _ e)) h2
    exact ⟨by rw [h1, h3], h4⟩
theorem joinTail_cons (x : List UInt8) (r : List (List UInt8)) : Lib.joinTail [58] (x :: r) = 58 :: (x ++ Lib.joinTail [58] r) := by
  simp [Lib.joinTail]
theorem joinTail_inj : ∀ (xs ys : List (List UInt8)) (x y : List UInt8), xs.length = ys.length → 58 ∉ x → 58 ∉ y → (∀ z ∈ xs, 58 ∉ z) → (∀ z ∈ ys, 58 ∉ z) → x ++ Lib.joinTail [58] xs = y ++ Lib.joinTail [58] ys → x = y ∧ xs = ys
  | [], [], x, y, _, _, _, _, _, h => by simpa [Lib.joinTail] using h
  | [], _ :: _, _, _, hl, _, _, _, _, _ => by simp at hl
  | _ :: _, [], _, _, hl, _, _, _, _, _ => by simp at hl
  | x1 :: xs, y1 :: ys, x, y, hl, hx, hy, hxs, hys, h => by
    rw [joinTail_cons, joinTail_cons] at h
    obtain ⟨h1, h2⟩ := cut_at _ _ _ _ hx hy h
    obtain ⟨h3, h4⟩ := joinTail_inj xs ys x1 y1 (by simpa using hl) (hxs _ (by simp)) (hys _ (by simp)) (fun z hz => hxs z (by simp [hz])) (fun z hz => hys z (by simp [hz])) h2
    exact ⟨h1, by rw [h3, h4]⟩
theorem join_inj (xs ys : List (List UInt8)) (hl : xs.length = ys.length) (hxs : ∀ z ∈ xs, 58 ∉ z) (hys : ∀ z ∈ ys, 58 ∉ z) (h : Lib.join xs [58] = Lib.join ys [58]) : xs = ys := by
  match xs, ys, hl with
  | [], [], _ => rfl
  | x :: xs, y :: ys, hl =>
    rw [Lib.join_cons, Lib.join_cons] at h
    obtain ⟨h3, h4⟩ := joinTail_inj xs ys x y (by simpa using hl) (hxs _ (by simp)) (hys _ (by simp)) (fun z hz => hxs z (by simp [hz])) (fun z hz => hys z (by simp [hz])) h
    rw [h3, h4]
theorem join_free (c : UInt8) (hc : c ≠ 58) (xs : List (List UInt8)) (h : ∀ z ∈ xs, c ∉ z) : c ∉ Lib.join xs [58] := by
  have ht : ∀ r : List (List UInt8), (∀ z ∈ r, c ∉ z) → c ∉ Lib.joinTail [58] r := by
    intro r
    induction r with
    | nil => intro _ h; simp [Lib.joinTail] at h
    | cons x r ih =>
      intro hr hm
      rw [joinTail_cons, List.mem_cons, List.mem_append] at hm
      rcases hm with hm | hm | hm
      · exact hc hm
      · exact hr x (by simp) hm
      · exact ih (fun z hz => hr z (by simp [hz])) hm
  cases xs with
  | nil => intro h; simp [Lib.join_nil] at h
  | cons x r =>
    rw [Lib.join_cons, List.mem_append]
    rintro (hm | hm)
    · exact h x (by simp) hm
    · exact ht r (fun z hz => h z (by simp [hz])) hm
theorem okW_free {n : Int} {s : ByteArray} (h : okW n s = true) : (58 : UInt8) ∉ s.data.toList ∧ (10 : UInt8) ∉ s.data.toList := by
  unfold okW at h
  rw [Bool.and_eq_true, List.all_eq_true] at h
  exact ⟨fun hm => absurd (h.2 _ hm) (by decide), fun hm => absurd (h.2 _ hm) (by decide)⟩
theorem row_free {a : ByteArray} {r : S34} (h : chk a r = 0) : (10 : UInt8) ∉ r.f0.data.toList ++ 58 :: Lib.join (r.f1.map (·.data.toList)) [58] := by
  obtain ⟨_, _, h2, h3, h4⟩ := chk_ok h
  intro hm
  rw [List.mem_append, List.mem_cons] at hm
  rcases hm with hm | hm | hm
  · exact (okW_free h2).2 hm
  · cases hm
  · refine join_free 10 (by decide) _ (fun z hz => ?_) hm
    obtain ⟨s, hs, rfl⟩ := List.mem_map.1 hz
    exact (okW_free (List.all_eq_true.1 h4 s hs)).2
theorem map_inj : ∀ (x y : List ByteArray), x.map (·.data.toList) = y.map (·.data.toList) → x = y
  | [], [], _ => rfl
  | [], _ :: _, h => by cases h
  | _ :: _, [], h => by cases h
  | a :: x, b :: y, h => by
    injection h with h1 h2
    rw [WideShapes.bytes_inj h1, map_inj x y h2]
theorem row_inj {a : ByteArray} {r s : S34} (hr : chk a r = 0) (hs : chk a s = 0) (h : r.f0.data.toList ++ 58 :: Lib.join (r.f1.map (·.data.toList)) [58] = s.f0.data.toList ++ 58 :: Lib.join (s.f1.map (·.data.toList)) [58]) : r = s := by
  obtain ⟨_, _, h2, h3, h4⟩ := chk_ok hr
  obtain ⟨_, _, g2, g3, g4⟩ := chk_ok hs
  obtain ⟨e1, e2⟩ := cut_at _ _ _ _ (okW_free h2).1 (okW_free g2).1 h
  have e3 := join_inj _ _ (by rw [List.length_map, List.length_map]; omega) (fun z hz => by
    obtain ⟨q, hq, rfl⟩ := List.mem_map.1 hz
    exact (okW_free (List.all_eq_true.1 h4 q hq)).1) (fun z hz => by
    obtain ⟨q, hq, rfl⟩ := List.mem_map.1 hz
    exact (okW_free (List.all_eq_true.1 g4 q hq)).1) e2
  obtain ⟨r0, r1⟩ := r
  obtain ⟨s0, s1⟩ := s
  have e4 := WideShapes.bytes_inj e1
  have e5 := map_inj _ _ e3
  simp only at e4 e5
  rw [e4, e5]
theorem textB_cons (r : S34) (l : List S34) : textB (r :: l) = (r.f0.data.toList ++ 58 :: Lib.join (r.f1.map (·.data.toList)) [58]) ++ 10 :: textB l := by
  unfold textB rowText
  rw [List.flatMap_cons]
  simp
theorem text_inj (a : ByteArray) : ∀ (x y : List S34), (∀ r ∈ x, chk a r = 0) → (∀ r ∈ y, chk a r = 0) → textB x = textB y → x = y
  | [], [], _, _, _ => rfl
  | [], r :: y, _, _, h => by rw [textB_cons] at h; simp [textB] at h
  | r :: x, [], _, _, h => by rw [textB_cons] at h; simp [textB] at h
  | r :: x, s :: y, hx, hy, h => by
    rw [textB_cons, textB_cons] at h
    obtain ⟨h1, h2⟩ := cut_at _ _ _ _ (row_free (hx r (by simp))) (row_free (hy s (by simp))) h
    rw [row_inj (hx r (by simp)) (hy s (by simp)) h1, text_inj a x y (fun q hq => hx q (by simp [hq])) (fun q hq => hy q (by simp [hq])) h2]
theorem bad_chk (a : ByteArray) : ∀ (p : Option S34) (l : List S34), bad a p l = false → ∀ r ∈ l, chk a r = 0
  | _, [], _, r, hr => by cases hr
  | p, q :: l, h, r, hr => by
    unfold bad at h
    rw [Bool.or_eq_false_iff, Bool.or_eq_false_iff] at h
    rcases List.mem_cons.1 hr with rfl | hr
    · have := of_decide_eq_false h.1.1
      exact Decidable.of_not_not this
    · exact bad_chk a (some q) l h.2 r hr
theorem prn_ok {a : ByteArray} {l : List S34} (h : (prn a l).2 = 0) : bad a none l = false ∧ (prn a l).1 = numsOf (textB l) ∧ l.length ≤ 32 ∧ (textB l).length ≤ 2432 ∧ widthOf a ≠ 0 := by
  unfold prn at h ⊢
  by_cases h0 : widthOf a = 0
  · rw [if_pos h0] at h; cases h
  rw [if_neg h0] at h ⊢
  by_cases h1 : 32 < l.length
  · rw [if_pos h1] at h; cases h
  rw [if_neg h1] at h ⊢
  cases h2 : bad a none l with
  | true => rw [h2, if_pos rfl] at h; cases h
  | false =>
    rw [h2, if_neg Bool.false_ne_true] at h
    rw [if_neg Bool.false_ne_true]
    by_cases h3 : 2432 < (textB l).length
    · rw [if_pos h3] at h; cases h
    · rw [if_neg h3]
      exact ⟨rfl, rfl, by omega, by omega, h0⟩
theorem str_nums (l : List UInt8) : strOfNums (numsOf l) = ⟨l.toArray⟩ := by
  unfold strOfNums numsOf
  rw [List.map_map]
  have : ((fun n : Int => UInt8.ofNat n.toNat) ∘ fun b : UInt8 => (b.toNat : Int)) = id := by
    funext b
    simp
  rw [this, List.map_id]
theorem str_text {x y : List UInt8} : (strOfNums (numsOf x)).toList = (strOfNums (numsOf y)).toList ↔ x = y := by
  rw [str_nums, str_nums, ByteArray.toList_eq, ByteArray.toList_eq]
theorem unlike {a : ByteArray} {x y : List S34} (hx : (prn a x).2 = 0) (hy : (prn a y).2 = 0) : (strOfNums (prn a x).1).toList = (strOfNums (prn a y).1).toList ↔ x = y := by
  obtain ⟨h1, h2, _⟩ := prn_ok hx
  obtain ⟨g1, g2, _⟩ := prn_ok hy
  rw [h2, g2, str_text]
  exact ⟨text_inj a x y (bad_chk a none x h1) (bad_chk a none y g1), fun h => by rw [h]⟩
set_option maxRecDepth 20000 in
set_option maxHeartbeats 2000000 in
theorem tablesUnlike (a : ByteArray) (A1 : Option Addr) (c1 : Nat) (x : List S34) (A2 : Option Addr) (c2 : Nat) (y : List S34) (w : World) (hr1 : Kd.C k34 w A1 x.length x) (hc1 : x.length ≤ c1) (hr2 : Kd.C k34 w A2 y.length y) (hc2 : y.length ≤ c2)
    (hx : ∀ r ∈ x, r.f1.length ≤ 9223372036854775807) (hy : ∀ r ∈ y, r.f1.length ≤ 9223372036854775807) (hxl : x.length ≤ 9223372036854775807) :
    Calls Tryd.prog 5 #[.string a, .slice A1 x.length c1, .slice A2 y.length c2] w fun e w' => e = .returned (.bool true) ∧ Below w.heap.size w w' := by
  obtain ⟨k1, hk1⟩ := (ev_print a x hx).rounds
  obtain ⟨k2, hk2⟩ := (ev_print a y hy).rounds
  obtain ⟨q, hq1, hq2⟩ := ev_same x y hxl hx
  obtain ⟨k3, hk3⟩ := hq1.rounds
  have hun := @unlike a x y
  rcases hp1 : prn a x with ⟨p1, e1⟩
  rcases hp2 : prn a y with ⟨p2, e2⟩
  rw [hp1] at hk1 hun
  rw [hp2] at hk2 hun
  simp only at hun
  have HUN := Aside0.mk hun
  have HQ := Aside0.mk hq2
  have H1 := Aside0.mk hk1
  have H2 := Aside0.mk hk2
  have H3 := Aside0.mk hk3
  have R1 := Aside0.mk hr1
  have R2 := Aside0.mk hr2
  obtain ⟨nx, hnx⟩ : ∃ n, n = x.length := ⟨_, rfl⟩
  obtain ⟨ny, hny⟩ : ∃ n, n = y.length := ⟨_, rfl⟩
  have C1 := Aside0.mk hc1
  have C2 := Aside0.mk hc2
  clear hun hq2 hk1 hk2 hk3 hq1 hr1 hr2 hc1 hc2 hp1 hp2 hx hy hxl
  go_enter Tryd.func5, Tryd.ntmps5
  go_wp2_with (go_at_call 8; refine (shown_calls _).mono ?_; rintro e w1 ⟨rfl, hb1⟩; have R1a := Aside0.mk (Kd.C_below R1.out hb1); have R2a := Aside0.mk (Kd.C_below R2.out hb1); have B1_ := Aside0.mk hb1; clear hb1)
  refine (tables_Print.calls k1 a A1 c1 x p1 e1 _ R1a.out C1.out H1.out).mono ?_
  rintro e w2 ⟨B1, d1, rfl, hd1, hD1, hb2⟩
  have R2b := Aside0.mk (Kd.C_below R2a.out hb2)
  have R1b := Aside0.mk (Kd.C_below R1a.out hb2)
  have D1 := Aside0.mk hD1
  have B2_ := Aside0.mk (below_step B1_.out hb2)
  clear hb2 hD1
  go_wp2_with fail
  refine (tables_Print.calls k2 a A2 c2 y p2 e2 _ R2b.out C2.out H2.out).mono ?_
  rintro e w3 ⟨B2, d2, rfl, hd2, hD2, hb3⟩
  have R2c := Aside0.mk (Kd.C_below R2b.out hb3)
  have R1c := Aside0.mk (Kd.C_below R1b.out hb3)
  have D1b := Aside0.mk (Kd.C_below D1.out hb3)
  have D2 := Aside0.mk hD2
  have B3_ := Aside0.mk (below_step B2_.out hb3)
  clear hb3 hD2
  go_wp2_with fail
  refine (majordomoref05_Same.calls k3 A1 c1 x A2 c2 y q _ R1c.out C1.out R2c.out C2.out H3.out).mono ?_
  rintro e w4 ⟨rfl, hb4⟩
  have s1 := Kd.C_string (P := Tryd.prog) (c := d1) Tryd.underlying25 Tryd.underlying5 Tryd.underlying9 (Kd.C_below D1b.out hb4)
  have s2 := Kd.C_string (P := Tryd.prog) (c := d2) Tryd.underlying25 Tryd.underlying5 Tryd.underlying9 (Kd.C_below D2.out hb4)
  have B4_ := Aside0.mk (below_step B3_.out hb4)
  clear hb4
  obtain ⟨n1, hn1⟩ : ∃ n, p1.length = n := ⟨_, rfl⟩
  obtain ⟨n2, hn2⟩ : ∃ n, p2.length = n := ⟨_, rfl⟩
  rw [hn1] at s1 ⊢
  rw [hn2] at s2 ⊢
  go_upto_region 5 with fail
  by_cases c1 : e1 = 0
  · by_cases c2 : e2 = 0
    · have HE := Aside0.mk ((HUN.out c1 c2).trans HQ.out.symm)
      obtain rfl : e1 = 0 := c1
      obtain rfl : e2 = 0 := c2
      have hsame : (((strOfNums p1).toList == (strOfNums p2).toList) == q) = true := by
        cases q with
        | true => rw [beq_iff_eq, beq_iff_eq]; exact HE.out.2 rfl
        | false =>
          rw [beq_iff_eq, beq_eq_false_iff_ne]
          exact fun h => by have := HE.out.1 h; cases this
      clear HE HUN HQ hn1 hn2
      go_wp2_with fail
      go_ret
      refine ⟨?_, B4_.out⟩
      first | rfl | (rw [hsame])
    · obtain rfl : e1 = 0 := c1
      have c2b : (e2 != 0) = true := by rw [bne_iff_ne]; exact c2
      clear HUN HQ hn1 hn2
      go_wp2_with fail
      go_ret
      exact ⟨rfl, B4_.out⟩
  · have c1b : (e1 != 0) = true := by rw [bne_iff_ne]; exact c1
    clear HUN HQ hn1 hn2
    go_wp2_with fail
    go_ret
    exact ⟨rfl, B4_.out⟩
end Go.Proofs.YtiobdnnijbfdhaaDoor.PT
