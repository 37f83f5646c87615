/- What the program's and the reference's names and paths come to: the plain law's words. -/
import Derived.Test.YtgppfalpncbmbaaDoorPXx7
import Derived.Test.YtgppfalpncbmbaaDoorPXx3
import Derived.Test.YtgppfalpncbmbaaDoorLaySpec
import Derived.WideShapes
namespace Go.Proofs.YtgppfalpncbmbaaDoor.PX
open Go.RowKit Go.Proofs.YtgppfalpncbmbaaDoorW.PrintWords Go.Proofs.YtgppfalpncbmbaaDoorW.PrintLast Go.Proofs.YtgppfalpncbmbaaDoorW.PrintMore
open Lay (nameOk splitL joinL pathF goR letters letter)

theorem ww (x y : Int) (h : x = y) (h0 : 0 ≤ y) (h1 : y < 9223372036854775808) : wrap64 x = y := by subst h; unfold wrap64; omega
abbrev mk (l : List UInt8) : ByteArray := ⟨l.toArray⟩
theorem mk_data (l : List UInt8) : (mk l).data.toList = l := by simp
theorem of_data (s : ByteArray) : s = mk s.data.toList := by apply Go.WideShapes.bytes_inj; rw [mk_data]
theorem ext_mk (s : ByteArray) (a b : Nat) : s.extract a b = mk ((s.data.toList.drop a).take (b - a)) := by
  apply Go.WideShapes.bytes_inj
  rw [mk_data, Lib.extract_data]
theorem sz (s : ByteArray) : s.size = s.data.toList.length := by rw [data_length]
theorem tl (s : ByteArray) : s.toList = s.data.toList := Lib.toList_data s
theorem bt_drop {s : ByteArray} {p : Nat} {b : UInt8} {r : List UInt8} (h : s.data.toList.drop p = b :: r) : bt s (p : Int) = (b.toNat : Int) := by
  have hlt : p < s.data.toList.length := by
    have := congrArg List.length h
    simp only [List.length_drop, List.length_cons] at this
    omega
  have hb : s.data.toList[p]? = some b := by
    have := congrArg (fun l => l[0]?) h
    simpa using this
  obtain ⟨⟨l⟩⟩ := s
  unfold bt
  rw [dif_pos (by simpa [ByteArray.size] using hlt)]
  simp only [Int.toNat_natCast]
  rw [List.getElem?_eq_getElem hlt, Option.some.injEq] at hb
  exact congrArg (fun b : UInt8 => (b.toNat : Int)) hb

theorem name_f (a : ByteArray) : layout_Name.f a = some (nameOk a.data.toList) := by
  unfold layout_Name.f nameOk
  rw [tl, sz]
  by_cases h0 : a.data.toList = []
  · rw [if_pos h0, h0]; rfl
  · rw [if_neg h0]
    have e0 : a.data.toList.isEmpty = false := by simpa using h0
    rw [e0]
    by_cases h1 : ((a.data.toList.length : Nat) : Int) ≤ 28
    · rw [if_pos h1, decide_eq_true (show a.data.toList.length ≤ 28 by omega)]
      by_cases h2 : a.data.toList = [46]
      · rw [if_pos h2, h2]; rfl
      · rw [if_neg h2]
        by_cases h3 : a.data.toList = [46, 46]
        · rw [if_pos h3, h3]; rfl
        · rw [if_neg h3]
          unfold strings_Trim.f
          rw [if_pos ⟨by rw [sz]; omega, by decide, by decide⟩]
          simp only [Option.bind_some]
          rw [show (a.data.toList != [46]) = true by simpa using h2, show (a.data.toList != [46, 46]) = true by simpa using h3, tl]
          rw [show ([65, 66, 67, 68, 69, 70, 71, 72, 73, 74, 75, 76, 77, 78, 79, 80, 81, 82, 83, 84, 85, 86, 87, 88, 89, 90, 97, 98, 99, 100, 101, 102, 103, 104, 105, 106, 107, 108, 109, 110, 111, 112, 113, 114, 115, 116, 117, 118, 119, 120, 121, 122, 48, 49, 50, 51, 52, 53, 54, 55, 56, 57, 46, 95, 45] : List UInt8) = letters from rfl]
          have h4 := Lay.trim_nil a.data.toList
          simp only [Bool.not_false, Bool.true_and, Option.some.injEq]
          cases hl : a.data.toList.all letter with
          | true => rw [h4.2 hl]; rfl
          | false =>
            rw [hl] at h4
            have h5 : Lib.trimS a.data.toList letters ≠ [] := fun e => by have := h4.1 e; cases this
            simpa using h5
    · rw [if_neg h1, decide_eq_false (show ¬ a.data.toList.length ≤ 28 by omega)]; rfl

theorem letter_int (b : UInt8) : letter b = decide ((65 ≤ (b.toNat : Int) ∧ (b.toNat : Int) ≤ 90) ∨ (97 ≤ (b.toNat : Int) ∧ (b.toNat : Int) ≤ 122) ∨ (48 ≤ (b.toNat : Int) ∧ (b.toNat : Int) ≤ 57) ∨ (b.toNat : Int) = 46 ∨ (b.toNat : Int) = 95 ∨ (b.toNat : Int) = 45) := by
  have h : ∀ n : Fin 256, letter (UInt8.ofNat n.1) = decide ((65 ≤ (n.1 : Int) ∧ (n.1 : Int) ≤ 90) ∨ (97 ≤ (n.1 : Int) ∧ (n.1 : Int) ≤ 122) ∨ (48 ≤ (n.1 : Int) ∧ (n.1 : Int) ≤ 57) ∨ (n.1 : Int) = 46 ∨ (n.1 : Int) = 95 ∨ (n.1 : Int) = 45) := by decide +kernel
  have := h ⟨b.toNat, b.toNat_lt⟩
  simpa using this
def nameEnd (l : List UInt8) : Bool := !l.isEmpty && decide (l.length ≤ 28) && l != [46] && l != [46, 46]
theorem nameOk_end (l : List UInt8) : nameOk l = (l.all letter && nameEnd l) := by unfold nameOk nameEnd; rw [Bool.and_comm]
set_option maxHeartbeats 4000000 in
theorem ev_refName_l0 (a : ByteArray) (hz : a.size ≤ 4611686018427387904) : ∀ (d i : Nat), i + d = a.size →
    Ev (fun k => majordomoref03_Name.l0 k a (i : Int)) ((a.data.toList.drop i).all letter && nameEnd a.data.toList) := by
  intro d
  induction d with
  | zero =>
    intro i hi
    have hd : a.data.toList.drop i = [] := by rw [List.drop_eq_nil_iff, ← sz]; omega
    rw [hd]
    refine Ev.step (f := fun _ => some (nameEnd a.data.toList)) (fun k => ?_) (Ev.now _)
    simp only [majordomoref03_Name.l0]
    rw [if_neg (by omega), tl, sz]
    unfold nameEnd
    cases hl : a.data.toList with
    | nil => rfl
    | cons x r =>
      rw [if_pos (by simp only [List.length_cons]; omega)]
      by_cases h1 : ((x :: r).length : Int) ≤ 28
      · rw [if_pos h1, decide_eq_true (show (x :: r).length ≤ 28 by omega)]
        by_cases h2 : x :: r = [46]
        · rw [if_pos h2, h2]; rfl
        · rw [if_neg h2, show ((x :: r) != [46]) = true by simpa using h2]; rfl
      · rw [if_neg h1, decide_eq_false (show ¬ (x :: r).length ≤ 28 by omega)]; rfl
  | succ d ih =>
    intro i hi
    cases hd : a.data.toList.drop i with
    | nil => rw [List.drop_eq_nil_iff, ← sz] at hd; omega
    | cons b r =>
      have hb := bt_drop hd
      have hl := letter_int b
      have hr : a.data.toList.drop (i + 1) = r := by rw [← List.drop_drop, hd]; rfl
      have ih' := ih (i + 1) (by omega)
      rw [hr] at ih'
      have hw : wrap64 ((i : Int) + 1) = ((i + 1 : Nat) : Int) := ww _ _ (by omega) (by omega) (by omega)
      rw [List.all_cons]
      by_cases hx : letter b = true
      · rw [hx]
        rw [hx] at hl
        have hl' := of_decide_eq_true hl.symm
        clear hl
        refine Ev.step (fun k => ?_) ih'
        simp only [majordomoref03_Name.l0]
        rw [hw, if_pos (by omega), if_pos (by omega), hb]
        clear hw
        generalize majordomoref03_Name.l0 k a ((i + 1 : Nat) : Int) = R
        generalize (b.toNat : Int) = c at hl'
        repeat' split
        all_goals first | rfl | (exfalso; omega)
      · have hx' : letter b = false := by simpa using hx
        rw [hx']
        rw [hx'] at hl
        have hl' := of_decide_eq_false hl.symm
        clear hl
        refine Ev.step (f := fun _ => some false) (fun k => ?_) (Ev.now _)
        simp only [majordomoref03_Name.l0]
        rw [hw, if_pos (by omega), if_pos (by omega), hb]
        clear hw
        generalize majordomoref03_Name.l0 k a ((i + 1 : Nat) : Int) = R
        generalize (b.toNat : Int) = c at hl'
        repeat' split
        all_goals first | rfl | (exfalso; omega)
theorem ev_refName (a : ByteArray) (hz : a.size ≤ 4611686018427387904) : Ev (fun k => majordomoref03_Name.f k a) (nameOk a.data.toList) := by
  have := ev_refName_l0 a hz a.size 0 (by omega)
  rw [nameOk_end]
  exact this

def res (r : List (List UInt8) × Int) : List ByteArray × Int := (r.1.map mk, r.2)
theorem ev_refPath_l0 (a : ByteArray) (hz : a.size ≤ 120) : ∀ (d i fr : Nat) (acc : List (List UInt8)), i + d = a.size → fr ≤ i → acc.length ≤ fr →
    Ev (fun k => majordomoref03_Path.l0 k a (acc.map mk) (fr : Int) (i : Int)) (res (goR acc ((a.data.toList.drop fr).take (i - fr)) (a.data.toList.drop i))) := by
  have hend : ∀ (acc : List (List UInt8)), Ev (fun k => majordomoref03_Path.l0 k a (acc.map mk) ((a.size + 1 : Nat) : Int) ((a.size + 1 : Nat) : Int)) (res (if acc.length > 8 then ([], 40) else (acc, 0))) := by
    intro acc
    refine Ev.step (f := fun _ => some (res (if acc.length > 8 then ([], 40) else (acc, 0)))) (fun k => ?_) (Ev.now _)
    simp only [majordomoref03_Path.l0]
    rw [if_neg (by omega), List.length_map]
    by_cases h8 : acc.length > 8
    · rw [if_pos (by omega), if_pos h8]; rfl
    · rw [if_neg (by omega), if_neg h8]; rfl
  intro d
  induction d with
  | zero =>
    intro i fr acc hi hf ha
    obtain rfl : i = a.size := by omega
    have hd : a.data.toList.drop a.size = [] := by rw [List.drop_eq_nil_iff, ← sz]; omega
    rw [hd]
    have hN := ev_refName (a.extract fr a.size) (by rw [sz, Lib.extract_data, List.length_take, List.length_drop, ← sz]; omega)
    rw [Lib.extract_data] at hN
    refine Ev.step (f := fun k => majordomoref03_Path.j2 k a (acc.map mk) (fr : Int) (a.size : Int) true) (fun k => ?_) ?_
    · simp only [majordomoref03_Path.l0]
      rw [if_pos (by omega), if_pos trivial]
    refine Ev.step (f := fun k => (majordomoref03_Name.f k (a.extract fr a.size)).bind fun t181 => (if t181 = true then (if (acc.map mk).length < 8796093022208 then (majordomoref03_Path.l0 k a (acc.map mk ++ [a.extract fr a.size]) (wrap64 ((a.size : Int) + 1)) (wrap64 ((a.size : Int) + 1))) else (none)) else (some (([] : List ByteArray), 40)))) (fun k => ?_) ?_
    · simp only [majordomoref03_Path.j2]
      rw [if_pos trivial, if_pos (by omega), if_pos (by omega), if_pos (by omega), Int.toNat_natCast, Int.toNat_natCast]
    refine Ev.bind hN ?_
    unfold goR
    by_cases hn : nameOk ((a.data.toList.drop fr).take (a.size - fr)) = true
    · rw [if_pos hn]
      refine Ev.congr (fun k => ?_) (hend (acc ++ [(a.data.toList.drop fr).take (a.size - fr)]))
      rw [if_pos hn, if_pos (by rw [List.length_map]; omega), ww ((a.size : Int) + 1) ((a.size + 1 : Nat) : Int) (by omega) (by omega) (by omega), ext_mk, List.map_append]
      rfl
    · rw [if_neg hn]
      refine Ev.congr (fun k => ?_) (Ev.now _)
      rw [if_neg hn]; rfl
  | succ d ih =>
    intro i fr acc hi hf ha
    cases hd : a.data.toList.drop i with
    | nil => rw [List.drop_eq_nil_iff, ← sz] at hd; omega
    | cons b r =>
      have hb := bt_drop hd
      have hr : a.data.toList.drop (i + 1) = r := by rw [← List.drop_drop, hd]; rfl
      have hw : wrap64 ((i : Int) + 1) = ((i + 1 : Nat) : Int) := ww _ _ (by omega) (by omega) (by omega)
      have h47 : ((b.toNat : Int) == 47) = decide (b = 47) := by
        have : ((b.toNat : Int) = 47) ↔ b = 47 := by
          rw [← UInt8.toNat_inj]
          simp
          omega
        simp only [← this]
        rfl
      refine Ev.step (f := fun k => majordomoref03_Path.j2 k a (acc.map mk) (fr : Int) (i : Int) (decide (b = 47))) (fun k => ?_) ?_
      · simp only [majordomoref03_Path.l0]
        rw [if_pos (by clear hw; omega), if_neg (by clear hw; omega), if_pos (by clear hw; omega), if_pos (by clear hw; omega), hb, h47]
      unfold goR
      by_cases hx : b = 47
      · rw [decide_eq_true hx, if_pos hx]
        have hN := ev_refName (a.extract fr i) (by rw [sz, Lib.extract_data, List.length_take, List.length_drop, ← sz]; clear hw; omega)
        rw [Lib.extract_data] at hN
        refine Ev.step (f := fun k => (majordomoref03_Name.f k (a.extract fr i)).bind fun t181 => (if t181 = true then (if (acc.map mk).length < 8796093022208 then (majordomoref03_Path.l0 k a (acc.map mk ++ [a.extract fr i]) (wrap64 ((i : Int) + 1)) (wrap64 ((i : Int) + 1))) else (none)) else (some (([] : List ByteArray), 40)))) (fun k => ?_) ?_
        · simp only [majordomoref03_Path.j2]
          rw [if_pos trivial, if_pos (by clear hw; omega), if_pos (by clear hw; omega), if_pos (by clear hw; omega), Int.toNat_natCast, Int.toNat_natCast]
        refine Ev.bind hN ?_
        by_cases hn : nameOk ((a.data.toList.drop fr).take (i - fr)) = true
        · rw [if_pos hn]
          have ih' := ih (i + 1) (i + 1) (acc ++ [(a.data.toList.drop fr).take (i - fr)]) (by clear hw; omega) (by clear hw; omega) (by rw [List.length_append]; simp only [List.length_singleton]; clear hw; omega)
          rw [hr, Nat.sub_self, List.take_zero] at ih'
          refine Ev.congr (fun k => ?_) ih'
          rw [if_pos hn, if_pos (by rw [List.length_map]; clear hw; omega), hw, ext_mk, List.map_append]
          rfl
        · rw [if_neg hn]
          refine Ev.congr (fun k => ?_) (Ev.now _)
          rw [if_neg hn]; rfl
      · rw [decide_eq_false hx, if_neg hx]
        have ih' := ih (i + 1) fr acc (by clear hw; omega) (by clear hw; omega) ha
        rw [hr] at ih'
        have he : (a.data.toList.drop fr).take (i + 1 - fr) = (a.data.toList.drop fr).take (i - fr) ++ [b] := by
          rw [show i + 1 - fr = (i - fr) + 1 by clear hw; omega, List.take_add_one, List.getElem?_drop, show fr + (i - fr) = i by clear hw; omega]
          have : a.data.toList[i]? = some b := by
            have := congrArg (fun l => l[0]?) hd
            simpa using this
          rw [this]; rfl
        rw [he] at ih'
        refine Ev.step (fun k => ?_) ih'
        simp only [majordomoref03_Path.j2]
        rw [if_neg (by decide), hw]

theorem ev_refPath (a : ByteArray) : Ev (fun k => majordomoref03_Path.f k a) (res (pathF a.data.toList)) := by
  have hbad : Ev (fun k => majordomoref03_Path.j0 k a true) (res ([], 40)) := by
    refine Ev.step (f := fun _ => some (res ([], 40))) (fun k => ?_) (Ev.now _)
    simp only [majordomoref03_Path.j0]
    rw [if_pos trivial]; rfl
  have hs := sz a
  unfold majordomoref03_Path.f
  by_cases h0 : a.data.toList = [47]
  · rw [h0]
    refine Ev.congr (fun k => ?_) (Ev.now _)
    rw [tl, if_pos h0]; rfl
  · by_cases h1 : (a.size : Int) < 2
    · rw [Lay.pathF_no (fun r hr => by
        rw [hr] at hs h0
        simp only [List.length_cons] at hs
        have : r = [] := List.length_eq_zero_iff.1 (by omega)
        exact h0 (by rw [this]))]
      refine Ev.congr (fun k => ?_) hbad
      rw [tl, if_neg h0, if_pos h1]
    · by_cases h2 : (a.size : Int) > 120
      · rw [Lay.pathF_long (by omega)]
        refine Ev.congr (fun k => ?_) hbad
        rw [tl, if_neg h0, if_neg h1, if_pos h2]
      · cases hl : a.data.toList with
        | nil => rw [hl] at hs; simp only [List.length_nil] at hs; omega
        | cons b r =>
          have hb := bt_drop (s := a) (p := 0) (b := b) (r := r) (by rw [hl]; rfl)
          rw [hl] at hs
          simp only [List.length_cons] at hs
          by_cases hx : b = 47
          · subst hx
            have hr : r ≠ [] := fun e => h0 (by rw [hl, e])
            rw [Lay.pathF_stroke r hr]
            have hgo := ev_refPath_l0 a (by omega) (a.size - 1) 1 1 [] (by omega) (by omega) (by simp)
            rw [hl, Nat.sub_self, List.take_zero] at hgo
            obtain ⟨p, ps, hp⟩ := Lay.splitL_ne r
            rw [show List.drop 1 (47 :: r) = r from rfl, Lay.goR_eq r [] [] p ps hp] at hgo
            rw [hp]
            simp only [List.nil_append] at hgo
            have e : (if (p :: ps).all nameOk = true ∧ r.length + 1 ≤ 120 ∧ (p :: ps).length ≤ 8 then (p :: ps, (0 : Int)) else ([], 40)) = (if (p :: ps).all nameOk = true ∧ (p :: ps).length ≤ 8 then (p :: ps, (0 : Int)) else ([], 40)) := by
              by_cases hq : (p :: ps).all nameOk = true ∧ (p :: ps).length ≤ 8
              · rw [if_pos hq, if_pos ⟨hq.1, by omega, hq.2⟩]
              · rw [if_neg hq, if_neg (fun h => hq ⟨h.1, h.2.2⟩)]
            rw [e]
            refine Ev.congr (f := fun k => majordomoref03_Path.j0 k a false) (fun k => ?_) ?_
            · rw [tl, if_neg h0, if_neg h1, if_neg h2, if_pos (by omega)]
              rw [show bt a 0 = 47 from hb]
              rfl
            · refine Ev.step (fun k => ?_) hgo
              simp only [majordomoref03_Path.j0]
              rw [if_neg (by decide)]
              rfl
          · rw [Lay.pathF_no (fun q hq => by simp only [List.cons.injEq] at hq; exact hx hq.1)]
            refine Ev.congr (fun k => ?_) hbad
            rw [tl, if_neg h0, if_neg h1, if_neg h2, if_pos (by omega)]
            rw [show bt a 0 = (b.toNat : Int) from hb]
            have : ((b.toNat : Int) != 47) = true := by
              have h : (b.toNat : Int) ≠ 47 := by
                intro h
                apply hx
                rw [← UInt8.toNat_inj]
                simp
                omega
              simpa using h
            rw [this]

end Go.Proofs.YtgppfalpncbmbaaDoor.PX
