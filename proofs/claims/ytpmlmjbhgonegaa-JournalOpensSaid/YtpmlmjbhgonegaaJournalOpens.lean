/- JournalOpens: opening a journal at which no group is at hand changes nothing, however often: for any bytes and any int. -/
import Derived.Test.YtpmlmjbhgonegaaRows
import Derived.Test.YtpmlmjbhgonegaaJPuts
import Derived.Test.YtpmlmjbhgonegaaBytesArg
import Derived.ProofKit
import Derived.OpenShut
import Derived.ShutString
import Derived.ChangeOld
namespace Go.Proofs.Ytpmlmjbhgonegaa.journalOpens
open Go.ChangeShapes Go.WideShapes Go.ChangeAt Go.RowKit
open Go.ChangeMaps (open_string shut_string)
set_option linter.unusedVariables false

theorem own : ownKnob Try.prog.godebug = none := by kernel_rfl
theorem laidOut : laidOutB Try.prog = true := by kernel_rfl
theorem only_below {w w' : World} (o : Only (fun _ => False) w w') : Below w.heap.size w w' := o.below (Below.refl _ _) (Nat.le_refl _) (fun _ e => e.elim)

/-- The group behind k bytes. -/
def grp (z : List UInt8) (k : Nat) : List (Int × List UInt8) := (List.range k).map fun i => ((206 + (i : Nat) : Int), fullBytes (z.getD i 0) 1)
theorem grp_length (z : List UInt8) (k : Nat) : (grp z k).length = k := by simp [grp]
theorem grp_more (z : List UInt8) (k : Nat) : grp z (k + 1) = grp z k ++ [((206 + (k : Nat) : Int), fullBytes (z.getD k 0) 1)] := by
  unfold grp
  rw [List.range_succ, List.map_append]
  rfl
theorem grp_slot (z : List UInt8) (k i : Nat) (h : i < k) : slot (grp z k) i = ((206 + (i : Nat) : Int), fullBytes (z.getD i 0) 1) :=
  slot_some (by unfold grp; rw [List.getElem?_map, List.getElem?_range h]; rfl)
theorem grp_group (z : List UInt8) (k : Nat) (h : k ≤ 40) : IsGroup 259 7 (grp z k) := by
  have hl := grp_length z k
  refine ⟨by omega, fun i hi => ?_, fun i hi => ?_, fun i hi => ?_, fun i hi => ?_, fun i j hi hj hne => ?_⟩
  · rw [grp_slot z k i (by omega)]; simp only; omega
  · rw [grp_slot z k i (by omega)]; simp only; omega
  · rw [grp_slot z k i (by omega)]; unfold inJ; simp only; omega
  · rw [grp_slot z k i (by omega)]; exact fullBytes_length _ _
  · rw [grp_slot z k i (by omega), grp_slot z k j (by omega)]; simp only; omega

theorem full_eq (w : World) (c z : UInt8) (n m : Int) (hn : n = c.toNat) (hm : m = z.toNat) :
    Calls Try.prog 16 #[.int .u8 n, .int .u8 m] w fun e w' => e = .returned (.slice (some ⟨w.heap.size, 0, none⟩) 64 64) ∧ w' = w.alloc (.cells (bvs (fullBytes c z)) 5) := by
  subst hn hm
  exact full_calls w c z
theorem rowsAt_lower {lo lo' : Nat} {w : World} {v : Value} {L : List (List UInt8)} (h : RowsAt lo w v L) (hlo : lo' ≤ lo) : RowsAt lo' w v L := by
  obtain ⟨x, c, hv, hm, hi⟩ := h
  refine ⟨x, c, hv, hm, fun i bs hb => ?_⟩
  obtain ⟨ad, a, ca, hx, h1, hc, hsl, hsa⟩ := hi i bs hb
  exact ⟨ad, a, ca, hx, by omega, hc, hsl, fun s e => by have := hsa s e; omega⟩

set_option maxRecDepth 100000 in
set_option maxHeartbeats 8000000 in
theorem walk (a0 : Option Addr) (len0 cap0 : Nat) (n : Int) (w : World) (w0 : BytesArg w a0 len0) (wn : (Lit.int .i64 n).wf = true) :
    Calls Try.prog 5 #[.slice a0 len0 cap0, .int .i64 n] w fun e w' => e = .returned (.bool true) ∧ Below w.heap.size w w' := by
  have hn := wf64 wn
  unfold I64 at hn
  clear wn
  obtain ⟨hl0, z0, hz0, hc0⟩ := w0
  have C0 := Lib.hid hc0
  have Z0 := Lib.hid hz0
  clear hc0 hz0
  obtain ⟨i0, hi0⟩ := put_info
  have HI := Lib.hid hi0
  clear hi0
  have SH := Lib.hid (shown_calls w)
  go_enter Try.func5, Try.ntmps5
  go_wp2_with fail
  refine SH.out.mono ?_
  rintro e w1 ⟨rfl, o1⟩
  have HB := Lib.hid (only_below o1)
  have O1 := Lib.hid o1
  clear o1
  go_wp2_with fail
  refine (ground_calls (B := w.heap.size) (w0 := w) 7 (by omega) (by omega) HB.out.size HB.out).mono ?_
  rintro e w2 ⟨p, r, jb, D, rfl, j2, o2, f2, cl2, hp, hr, hj⟩
  have J := Lib.hid j2
  have O2 := Lib.hid (O1.out.trans o2)
  have F := Lib.hid f2
  have CL := Lib.hid cl2
  have HLT := Lib.hid (show p < w2.heap.size ∧ r < w2.heap.size ∧ jb < w2.heap.size from ⟨lt_of_heap j2.st.disk.cells, by obtain ⟨_, _, hm, _⟩ := j2.st.disk.map; exact lt_of_heap hm, lt_of_heap j2.cells⟩)
  clear j2 o2 f2 cl2 hp hr hj
  go_wp2_with fail
  go_loopw [9, 8] (fun i v wr => ∃ (k : Nat) (bl : List Nat), i = .int .i64 k ∧ k ≤ len0 ∧ k ≤ 40 ∧ Only (fun _ => False) w2 wr ∧ PutsOwn w2.heap.size wr v bl (grp z0 k)) (fun i _ _ => 40 - (intOf i).toNat)
  case atStart => exact ⟨0, [], rfl, by omega, by omega, (Only.refl _ w2).alloc _, PutsOwn.start w2⟩
  case round =>
    obtain ⟨k, bl, rfl, hk1, hk2, ho, hpo⟩ := hrel
    have O3 := Lib.hid ho
    have P := Lib.hid hpo
    clear ho hpo
    by_cases hgo : k < len0 ∧ k < 40
    · obtain ⟨hlt, hlt40⟩ := hgo
      obtain ⟨x, rfl, -, hcx⟩ := C0.out k hlt
      have c0 := some_kept (O2.out.trans O3.out) hcx
      unfold bv at c0
      clear hcx
      obtain ⟨gq, cq, hv⟩ := P.out.shape
      subst hv
      have HGL := Lib.hid (grp_length z0 k)
      have hw1 : IntKind.i64.wrap (206 + (k : Int)) = 206 + (k : Int) := IntWalk.i64_in _ (by omega)
      go_wp2_with fail
      refine (full_eq wr (z0.getD k 0) 1 _ _ rfl rfl).mono ?_
      rintro e w4 ⟨rfl, rfl⟩
      go_wp2_with (at_builtin; refine wpList_append_own _ rfl (.tmp 41) (.tmp 50) 40 rfl w2.heap.size 44 i0 (.agg #[.int .i64 0, .slice none 0 0]) 2 32 Try.underlying40 HI.out.1 HI.out.2.1 HI.out.2.2.1 HI.out.2.2.2 rfl (by decide) _ _ _ rfl ((P.out.own.alloc _).alloc _) ⟨wr.heap.size + 1, 0, none⟩ 1 1 [.int .i64 (206 + (k : Int)), rowVal wr.heap.size] rfl rfl (two_cells _ _ _ _ _) (by simp [rowVal, Value.oneCell']) (by rw [HGL.out]; unfold maxLen; omega) (by rw [HGL.out]; omega) (by have := O3.out.size; simp; omega) ?_; intro v' w7 hown hgr hnil)
      have O7 := Lib.hid (((O3.out.alloc (.cells (bvs (fullBytes (z0.getD k 0) 1)) 5)).alloc (.cells #[.int .i64 (206 + (k : Int)), rowVal wr.heap.size] 44)).grown hgr (fun q hq => Or.inr (P.out.own.lt q hq).1))
      have hP7 : PutsOwn w2.heap.size w7 v' (bl ++ [wr.heap.size]) (grp z0 (k + 1)) := by
        rw [grp_more]
        exact P.out.more hown hgr O3.out.size
      have P7 := Lib.hid hP7
      clear hown hgr hnil hP7 c0
      go_wp2_with fail
      go_roundw
      case rel => exact ⟨k + 1, bl ++ [wr.heap.size], by go_num, by omega, by omega, O7.out, P7.out⟩
      case measure => simp [intOf]; omega
    · have hstop : k = len0 ∨ (k < len0 ∧ k = 40) := by omega
      clear hgo
      rcases hstop with hstop | ⟨hstop, hstop2⟩
      · have hnot : ¬ k < len0 := by omega
        clear hstop
        have hput := P.out
        obtain ⟨gq, cq, hv⟩ := hput.shape
        subst hv
        obtain ⟨-, hpa⟩ := hput.puts (T := Three p r jb) (fun i hi => (grp_group z0 k (by omega)).full i hi) (fun q hq => by have := HLT.out; rcases hq with e | e | e <;> omega)
        have HPA := Lib.hid hpa
        have HGL := Lib.hid (grp_length z0 k)
        clear hput hpa
        obtain ⟨gn, hgn⟩ : ∃ gn, gn = (grp z0 k).length := ⟨_, rfl⟩
        have HGN := Lib.hid hgn
        rw [← hgn]
        clear hgn
        go_wp2_with fail
        refine (commit_fit (J.out.same O3.out) 1000 F.out (by decide) (by decide) (by decide) (by decide) (by decide) CL.out (some ⟨gq, 0, none⟩) (grp z0 k) gn cq HGN.out (grp_group z0 k (by omega)) HPA.out).mono ?_
        rintro e w5 ⟨rfl, D1, j5, f5, cl5, o5⟩
        have J5 := Lib.hid j5
        have F5 := Lib.hid f5
        have CL5 := Lib.hid cl5
        have HS5 := Lib.hid (Nat.le_trans O3.out.size o5.size)
        clear j5 f5 cl5 o5 HPA P
        go_wp2_with fail
        refine (rows_calls J5.out.st 7 259 _ F5.out (by decide) (by decide) (by decide) (by decide)).mono ?_
        rintro e w6 ⟨v1, rfl, r6, s6, o6⟩
        have S6 := Lib.hid s6
        have R6 := Lib.hid (rowsAt_lower r6 HS5.out)
        clear r6 s6
        have hrange := amongOf_range n 10 (by decide)
        have hamong := fun w => among_calls w n 10 hn.1 hn.2 (by decide) (by decide)
        generalize amongOf n 10 = tm at *
        have HAM := Lib.hid hamong
        clear hamong
        go_wp2_with fail
        go_loopw [13] (fun i wr => ∃ (q : Nat) (D2 : DK), i = .int .i64 q ∧ (q : Int) ≤ tm ∧ DSt w.heap.size w wr p r D2 ∧ Fit D2 259 (2000 + 257 * q) ∧ Clean 7 1 D2.get (applied (grp z0 k) zeroImg) ∧ RowsAt w2.heap.size wr v1 (rowsTo 7 D1.get (259 : Int).toNat) ∧ w2.heap.size ≤ wr.heap.size) (fun i _ => 10 - (intOf i).toNat)
        case atStart => exact ⟨0, D1, rfl, by omega, S6.out, ⟨F5.out.len, F5.out.off, F5.out.fuse, F5.out.under.mono (by omega)⟩, CL5.out, R6.out, Nat.le_trans HS5.out o6.size⟩
        case round =>
          obtain ⟨q, D2, rfl, hq, s7, f7, cl7, r7, hs7⟩ := hrel
          have S7 := Lib.hid s7
          have F7 := Lib.hid f7
          have CL7 := Lib.hid cl7
          have R7 := Lib.hid r7
          have HS7 := Lib.hid hs7
          clear s7 f7 cl7 r7 hs7
          by_cases hlt : (q : Int) < tm
          · go_wp2_with fail
            refine (HAM.out _).mono ?_
            rintro e w8 ⟨rfl, rfl⟩
            go_wp2_with fail
            refine (open_fit S7.out _ F7.out (by decide) (by decide) (by decide) (by decide) (by omega) (.inl CL7.out)).mono ?_
            rintro e w9 ⟨jb2, D3, rfl, hj2, j9, f9, cl9, o9⟩
            have J9 := Lib.hid j9
            have F9 := Lib.hid f9
            have CL9 := Lib.hid cl9
            have R9 := Lib.hid (R7.out.only o9 (fun i e => by have := HLT.out; rcases e with e | e <;> omega))
            have HS9 := Lib.hid (Nat.le_trans HS7.out o9.size)
            clear hj2 j9 f9 cl9 o9
            go_wp2_with fail
            refine (groups_calls w9 p jb2 7 _ J9.out.cells).mono ?_
            rintro e w10 ⟨rfl, rfl⟩
            go_wp2_with fail
            go_roundw
            case rel => exact ⟨q + 1, D3, by go_num, by omega, J9.out.st, ⟨F9.out.len, F9.out.off, F9.out.fuse, F9.out.under.mono (by omega)⟩, CL9.out, R9.out, HS9.out⟩
            case measure => simp [intOf]; omega
          · go_wp2_with fail
            refine (HAM.out _).mono ?_
            rintro e w8 ⟨rfl, rfl⟩
            go_wp2_with fail
            refine (rows_calls S7.out 7 259 _ F7.out (by decide) (by decide) (by decide) (by decide)).mono ?_
            rintro e w9 ⟨v2, rfl, r9, s9, o9⟩
            have S9 := Lib.hid s9
            have R9 := Lib.hid (rowsAt_lower r9 HS7.out)
            have R8 := Lib.hid (R7.out.only o9 (fun i e => e.elim))
            clear r9 s9 o9
            go_wp2_with fail
            refine (same_calls w9 w2.heap.size v1 v2 _ _ R8.out R9.out).mono ?_
            have heq : rowsTo 7 D1.get (259 : Int).toNat = rowsTo 7 D2.get (259 : Int).toNat := (rowsTo_same CL5.out.out _).trans (rowsTo_same CL7.out.out _).symm
            rw [decide_eq_true heq]
            clear heq
            rintro e w10 ⟨rfl, o10⟩
            have S10 := Lib.hid (S9.out.same o10)
            clear o10
            go_wp2_with fail
            go_ret
            exact ⟨rfl, S10.out.below⟩
      · have hnot : ¬ k < 40 := by omega
        clear hstop2
        have hput := P.out
        obtain ⟨gq, cq, hv⟩ := hput.shape
        subst hv
        obtain ⟨-, hpa⟩ := hput.puts (T := Three p r jb) (fun i hi => (grp_group z0 k (by omega)).full i hi) (fun q hq => by have := HLT.out; rcases hq with e | e | e <;> omega)
        have HPA := Lib.hid hpa
        have HGL := Lib.hid (grp_length z0 k)
        clear hput hpa
        obtain ⟨gn, hgn⟩ : ∃ gn, gn = (grp z0 k).length := ⟨_, rfl⟩
        have HGN := Lib.hid hgn
        rw [← hgn]
        clear hgn
        go_wp2_with fail
        refine (commit_fit (J.out.same O3.out) 1000 F.out (by decide) (by decide) (by decide) (by decide) (by decide) CL.out (some ⟨gq, 0, none⟩) (grp z0 k) gn cq HGN.out (grp_group z0 k (by omega)) HPA.out).mono ?_
        rintro e w5 ⟨rfl, D1, j5, f5, cl5, o5⟩
        have J5 := Lib.hid j5
        have F5 := Lib.hid f5
        have CL5 := Lib.hid cl5
        have HS5 := Lib.hid (Nat.le_trans O3.out.size o5.size)
        clear j5 f5 cl5 o5 HPA P
        go_wp2_with fail
        refine (rows_calls J5.out.st 7 259 _ F5.out (by decide) (by decide) (by decide) (by decide)).mono ?_
        rintro e w6 ⟨v1, rfl, r6, s6, o6⟩
        have S6 := Lib.hid s6
        have R6 := Lib.hid (rowsAt_lower r6 HS5.out)
        clear r6 s6
        have hrange := amongOf_range n 10 (by decide)
        have hamong := fun w => among_calls w n 10 hn.1 hn.2 (by decide) (by decide)
        generalize amongOf n 10 = tm at *
        have HAM := Lib.hid hamong
        clear hamong
        go_wp2_with fail
        go_loopw [13] (fun i wr => ∃ (q : Nat) (D2 : DK), i = .int .i64 q ∧ (q : Int) ≤ tm ∧ DSt w.heap.size w wr p r D2 ∧ Fit D2 259 (2000 + 257 * q) ∧ Clean 7 1 D2.get (applied (grp z0 k) zeroImg) ∧ RowsAt w2.heap.size wr v1 (rowsTo 7 D1.get (259 : Int).toNat) ∧ w2.heap.size ≤ wr.heap.size) (fun i _ => 10 - (intOf i).toNat)
        case atStart => exact ⟨0, D1, rfl, by omega, S6.out, ⟨F5.out.len, F5.out.off, F5.out.fuse, F5.out.under.mono (by omega)⟩, CL5.out, R6.out, Nat.le_trans HS5.out o6.size⟩
        case round =>
          obtain ⟨q, D2, rfl, hq, s7, f7, cl7, r7, hs7⟩ := hrel
          have S7 := Lib.hid s7
          have F7 := Lib.hid f7
          have CL7 := Lib.hid cl7
          have R7 := Lib.hid r7
          have HS7 := Lib.hid hs7
          clear s7 f7 cl7 r7 hs7
          by_cases hlt : (q : Int) < tm
          · go_wp2_with fail
            refine (HAM.out _).mono ?_
            rintro e w8 ⟨rfl, rfl⟩
            go_wp2_with fail
            refine (open_fit S7.out _ F7.out (by decide) (by decide) (by decide) (by decide) (by omega) (.inl CL7.out)).mono ?_
            rintro e w9 ⟨jb2, D3, rfl, hj2, j9, f9, cl9, o9⟩
            have J9 := Lib.hid j9
            have F9 := Lib.hid f9
            have CL9 := Lib.hid cl9
            have R9 := Lib.hid (R7.out.only o9 (fun i e => by have := HLT.out; rcases e with e | e <;> omega))
            have HS9 := Lib.hid (Nat.le_trans HS7.out o9.size)
            clear hj2 j9 f9 cl9 o9
            go_wp2_with fail
            refine (groups_calls w9 p jb2 7 _ J9.out.cells).mono ?_
            rintro e w10 ⟨rfl, rfl⟩
            go_wp2_with fail
            go_roundw
            case rel => exact ⟨q + 1, D3, by go_num, by omega, J9.out.st, ⟨F9.out.len, F9.out.off, F9.out.fuse, F9.out.under.mono (by omega)⟩, CL9.out, R9.out, HS9.out⟩
            case measure => simp [intOf]; omega
          · go_wp2_with fail
            refine (HAM.out _).mono ?_
            rintro e w8 ⟨rfl, rfl⟩
            go_wp2_with fail
            refine (rows_calls S7.out 7 259 _ F7.out (by decide) (by decide) (by decide) (by decide)).mono ?_
            rintro e w9 ⟨v2, rfl, r9, s9, o9⟩
            have S9 := Lib.hid s9
            have R9 := Lib.hid (rowsAt_lower r9 HS7.out)
            have R8 := Lib.hid (R7.out.only o9 (fun i e => e.elim))
            clear r9 s9 o9
            go_wp2_with fail
            refine (same_calls w9 w2.heap.size v1 v2 _ _ R8.out R9.out).mono ?_
            have heq : rowsTo 7 D1.get (259 : Int).toNat = rowsTo 7 D2.get (259 : Int).toNat := (rowsTo_same CL5.out.out _).trans (rowsTo_same CL7.out.out _).symm
            rw [decide_eq_true heq]
            clear heq
            rintro e w10 ⟨rfl, o10⟩
            have S10 := Lib.hid (S9.out.same o10)
            clear o10
            go_wp2_with fail
            go_ret
            exact ⟨rfl, S10.out.below⟩

/-! ### THE ROW's STEP -/
set_option maxRecDepth 100000 in
theorem lifted (os : Os) (started : os.Started) (H : Type) (enc : TypeId × Value → H) :
    ReturnsInHanded {} Try.checked os 5 .any (Rows.journalOpensSpec.pre6 enc Try.prog Try.f5 Rows.journalOpensRow.domain false) (Rows.journalOpensSpec.post enc Try.prog Try.f5 false true false false) := by
  refine returnsInHanded_of_change (C := Try.checked) own started (by kernel_rfl) Try.func5
    (ChangeSpec.witness6 (enc := enc) (C := Try.checked) false ⟨#[], #[.slice none 0 0, .int .i64 0], []⟩ 8 (by kernel_rfl) (by kernel_rfl) (by kernel_rfl) (by kernel_rfl)) ?_
  intro W base args ds gs before hval0 hW hcnd _
  have hval : ∀ (j : Nat) t v, Try.f5.params[j]? = some t → args[j]? = some v → Value.okWide Try.prog W .any base t v := hval0
  have hW' := hW
  obtain ⟨p, q, hA0, hV, rfl, hfz, hnd⟩ := hW
  have hA : DataW.TrodAll enc Try.prog W 0 (fun _ => true) true Try.f5.params.toList args.toList ds p := hA0
  rw [Try.params5] at hA hval
  obtain ⟨v0, vs0, d0, ds0, p0, q0, hargs, rfl, rfl, h0, r0⟩ := trodAll_cons hA
  obtain ⟨v1, vs1, d1, ds1, p1, q1, rfl, rfl, rfl, h1, r1⟩ := trodAll_cons r0
  obtain ⟨rfl, rfl, rfl⟩ := trodAll_nil r1
  obtain rfl : args = #[v0, v1] := by cases args; simp_all
  obtain ⟨rfl, rfl⟩ := trodVars_none hV
  obtain ⟨a0, len0, cap0, rfl⟩ := okWide_slice Try.underlying32 (hval 0 32 v0 rfl rfl)
  have k0 := h0
  have lt0 : ∀ x ∈ p0, x.block < W.heap.size := by obtain ⟨m, hm⟩ := k0; exact DataW.trod_lt m _ _ _ hm
  have w0 : BytesArg W a0 len0 := by
    obtain ⟨fuel, hf⟩ := h0
    exact bytes_open hf
  obtain ⟨a1, rfl, rfl, rfl, w1⟩ := open_int Try.underlying3 (hval 1 3 v1 rfl rfl) h1
  clear hA0 hval0
  refine (walk a0 len0 cap0 a1 W w0 w1).mono fun e W' ⟨he, bel⟩ => ?_
  subst he
  exact ⟨_, rfl, _, _, _, [], _, [], hW', trodAll_mk1 (shut_bool Try.underlying4 _), (trodAll_cons_mk (Below.trod laidOut (by kernel_rfl) (of_decide_eq_true (by kernel_rfl)) k0 bel lt0) (trodAll_cons_mk (shut_int Try.underlying3 w1) trodAll_mk0)), rfl, bel.frame _, fun h => by cases h⟩

theorem over : Rows.journalOpensRow.holds Try.pinned (OpenSpec.ofChange Rows.journalOpensSpec) :=
  OpenClaim.holds_of_wide 5 Try.f5 rfl rfl rfl rfl rfl rfl rfl ⟨rfl, rfl, rfl, rfl, rfl⟩ rfl rfl rfl rfl rfl (by kernel_rfl) Try.func5 (by kernel_rfl)
    (of_decide_eq_true (by kernel_rfl)) (by unfold Func.isWrapper; first | (rw [if_pos (by decide +kernel)]; kernel_rfl) | (rw [if_neg (by decide +kernel)]; exact ⟨rfl, rfl⟩))
    (fun os started H enc _ => lifted os started H enc)

theorem proved : Rows.JournalOpensSaid := over
#print axioms proved
end Go.Proofs.Ytpmlmjbhgonegaa.journalOpens
