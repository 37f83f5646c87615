/- JournalSteps: at whichever write of a group the power goes off, all or none of it is there: any groups (no condition). -/
import Derived.Test.YtpmlmjbhgonegaaRows
import Derived.Test.YtpmlmjbhgonegaaJSteps
import Derived.Test.YtpmlmjbhgonegaaJSeen
import Derived.ShutString
import Derived.ChangeOld
import Derived.Deep.CutBlock
namespace Go.Proofs.Ytpmlmjbhgonegaa.journalSteps
open Go.ChangeShapes Go.WideShapes Go.ChangeAt Go.RowKit
open Go.ChangeMaps (open_string shut_string)
set_option linter.unusedVariables false

theorem own : ownKnob Try.prog.godebug = none := by kernel_rfl
theorem laidOut : laidOutB Try.prog = true := by kernel_rfl
theorem only_below {w w' : World} (o : Only (fun _ => False) w w') : Below w.heap.size w w' := o.below (Below.refl _ _) (Nat.le_refl _) (fun _ e => e.elim)
theorem full_eq (w : World) (c z : UInt8) (n m : Int) (hn : n = c.toNat) (hm : m = z.toNat) :
    Calls Try.prog 16 #[.int .u8 n, .int .u8 m] w fun e w' => e = .returned (.slice (some ⟨w.heap.size, 0, none⟩) 64 64) ∧ w' = w.alloc (.cells (bvs (fullBytes c z)) 5) := by
  subst hn hm
  exact full_calls w c z
theorem rowsAt_lower {lo lo' : Nat} {w : World} {v : Value} {L : List (List UInt8)} (h : RowsAt lo w v L) (hlo : lo' ≤ lo) : RowsAt lo' w v L := by
  obtain ⟨x, c, hv, hm, hi⟩ := h
  refine ⟨x, c, hv, hm, fun i bs hb => ?_⟩
  obtain ⟨ad, a, ca, hx, h1, hc, hsl, hsa⟩ := hi i bs hb
  exact ⟨ad, a, ca, hx, by omega, hc, hsl, fun s e => by have := hsa s e; omega⟩
/-- A slice of puts is none of these blocks' kind. -/
theorem PutsOwn.ne {lo gb : Nat} {w : World} {v : Value} {bl : List Nat} {L : List (Int × List UInt8)} (h : PutsOwn lo w v bl L) (hb : w.heap[gb]? = some (.cells #[] 44 (0, 0))) : ∀ b ∈ bl, b ≠ gb := by
  intro b hin e
  subst e
  obtain ⟨i, hi⟩ := List.mem_iff_getElem?.1 hin
  have := (h.rows i b hi).2
  rw [hb] at this
  injection this with h1
  injection h1 with _ h2 _
  exact absurd h2 (by decide)

def KeepA (w2 : World) (lo : Nat) (w : World) : Prop := Only (fun q => lo ≤ q) w2 w ∧ w.heap[lo + 1]? = some (.cells #[] 44 (0, 0))
def KeepB (w2 : World) (lo lb : Nat) (xa : Option Addr) (la : List (Int × List UInt8)) (p r jb : Nat) (w : World) : Prop := Only (fun q => lo ≤ q) w2 w ∧ lb ≤ w.heap.size ∧ PutsAt (fun q => Three p r jb q ∨ q = lo + 1 ∨ lb ≤ q) w xa la
theorem KeepB.step {w2 : World} {lo lb : Nat} {xa : Option Addr} {la : List (Int × List UInt8)} {p r jb : Nat} {w w' : World} (h : KeepB w2 lo lb xa la p r jb w) (hlb : lo ≤ lb) (o : Only (fun q => q = lo + 1 ∨ lb ≤ q) w w') : KeepB w2 lo lb xa la p r jb w' :=
  ⟨h.1.trans (o.mono (fun q _ e => by rcases e with e | e <;> omega)), Nat.le_trans h.2.1 o.size, h.2.2.only o (fun i e => .inr e)⟩

set_option maxRecDepth 100000 in
set_option maxHeartbeats 8000000 in
theorem walk (a0 : Option Addr) (len0 cap0 : Nat) (a1 : Option Addr) (len1 cap1 : Nat) (w : World) (w0 : BytesArg w a0 len0) (w1 : BytesArg w a1 len1) :
    Calls Try.prog 8 #[.slice a0 len0 cap0, .slice a1 len1 cap1] w fun e w' => e = .returned (.bool true) ∧ Below w.heap.size w w' := by
  obtain ⟨hl0, z0, hz0, hc0⟩ := w0
  obtain ⟨hl1, z1, hz1, hc1⟩ := w1
  have C0 := Lib.hid hc0
  have C1 := Lib.hid hc1
  clear hc0 hc1 hz0 hz1
  obtain ⟨i0, hi0⟩ := put_info
  have HI := Lib.hid hi0
  clear hi0
  have SH := Lib.hid (shown_calls w)
  go_enter Try.func8, Try.ntmps8
  go_wp2_with fail
  refine SH.out.mono ?_
  rintro e w1 ⟨rfl, o1⟩
  have HB := Lib.hid (only_below o1)
  clear o1
  go_wp2_with fail
  refine (ground_calls (B := w.heap.size) (w0 := w) 0 (by omega) (by omega) HB.out.size HB.out).mono ?_
  rintro e w2 ⟨p, r, jb, D, rfl, j2, o2, f2, cl2, hp, hr, hj⟩
  have J := Lib.hid j2
  have F := Lib.hid f2
  have CL := Lib.hid cl2
  have HLT := Lib.hid (show p < w2.heap.size ∧ r < w2.heap.size ∧ jb < w2.heap.size from ⟨lt_of_heap j2.st.disk.cells, by obtain ⟨_, _, hm, _⟩ := j2.st.disk.map; exact lt_of_heap hm, lt_of_heap j2.cells⟩)
  have HB2 := Lib.hid j2.st
  clear j2 o2 f2 cl2 hp hr hj
  obtain ⟨lo, hlo⟩ : ∃ lo, lo = w2.heap.size := ⟨_, rfl⟩
  have HLO := Lib.hid hlo
  go_upto_region 7 with fail
  have PA0 := Lib.hid ((PutsOwn.start w2).none ((Only.refl (fun _ => False) _).alloc (.cells #[] 44)))
  have KA0 := Lib.hid (show KeepA w2 lo ((w2.alloc (.cells #[] 44)).alloc (.cells #[] 44)) from ⟨((Only.refl _ w2).alloc _).alloc _, by
    have := heap_alloc_new (w2.alloc (.cells #[] 44)) (.cells #[] 44)
    rw [heap_alloc_size, ← hlo] at this
    exact this⟩)
  rw [← hlo] at PA0 ⊢
  clear hlo
  generalize (w2.alloc (.cells #[] 44)).alloc (.cells #[] 44) = w3 at *
  go_upto_block 0 with fail
  go_cut [8] (fun v wc => ∃ (k : Nat) (bl : List Nat), k ≤ 40 ∧ PutsOwn lo wc v bl (rowG posA (fullOf z0) k) ∧ (∀ g, v.ownBlock = some g → g ≠ lo + 1) ∧ KeepA w2 lo wc)
  case first =>
    as_aux_lemma =>
    go_wp2_with fail
    go_loopw [10, 8] (fun i v wr => ∃ (k : Nat) (bl : List Nat), i = .int .i64 k ∧ k ≤ len0 ∧ k ≤ 40 ∧ PutsOwn lo wr v bl (rowG posA (fullOf z0) k) ∧ (∀ g, v.ownBlock = some g → g ≠ lo + 1) ∧ KeepA w2 lo wr) (fun i _ _ => 40 - (intOf i).toNat)
    case atStart => exact ⟨0, [], rfl, by omega, by omega, PA0.out, fun g hg => by simp [Value.ownBlock] at hg; omega, KA0.out⟩
    case round =>
      obtain ⟨k, bl, rfl, hk1, hk2, hpo, hown, hkeep⟩ := hrel
      have P := Lib.hid hpo
      have OW := Lib.hid hown
      have KP := Lib.hid hkeep
      clear hpo hown hkeep
      obtain ⟨gq, cq, hv⟩ := P.out.shape
      subst hv
      by_cases hgo : k < len0 ∧ k < 40
      · obtain ⟨hlt, hlt40⟩ := hgo
        have hlt40i : decide ((k : Int) < 40) = true := decide_eq_true (by omega)
        obtain ⟨x, rfl, hxl, hcx⟩ := C0.out k hlt
        have c0 := ((KP.out.1.below HB2.out.below HB2.out.hB (fun i hi => by have := HLO.out; have := HB2.out.hB; omega)).cell (p := x.add k) (by simp only [add_block]; exact hxl)).trans hcx
        unfold bv at c0
        clear hcx
        have HGL := Lib.hid (rowG_length (pos := posA) (f := fullOf z0) k)
        have hwk : IntKind.u8.wrap (k : Int) = (k : Int) := IntWalk.u8_in _ (by omega)
        have hw1 : IntKind.i64.wrap (199 + (k : Int)) = 199 + (k : Int) := IntWalk.i64_in _ (by omega)
        go_wp2_with fail
        refine (full_eq wr (z0.getD k 0) (UInt8.ofNat k) _ _ rfl (by rw [UInt8.toNat_ofNat']; omega)).mono ?_
        rintro e w4 ⟨rfl, rfl⟩
        go_wp2_with (at_builtin; refine wpList_append_here rfl (.tmp 54) (.tmp 65) 40 rfl lo 44 i0 (.agg #[.int .i64 0, .slice none 0 0]) 2 32 Try.underlying40 HI.out.1 HI.out.2.1 HI.out.2.2.1 HI.out.2.2.2 rfl (by decide) gq cq _ _ rfl ((P.out.own.alloc _).alloc _) ⟨wr.heap.size + 1, 0, none⟩ 1 1 [.int .i64 (199 + (k : Int)), rowVal wr.heap.size] rfl rfl (two_cells _ _ _ _ _) (by simp [rowVal, Value.oneCell']) (by rw [HGL.out]; unfold maxLen; omega) (by rw [HGL.out]; omega) (by have := (show lo ≤ wr.heap.size from by rw [HLO.out]; exact KP.out.1.size); simp; omega) ?_; intro v' w7 hown hgr hwh)
        have o7 := (((Only.refl (fun q => q = gq) wr).alloc (.cells (bvs (fullBytes (z0.getD k 0) (UInt8.ofNat k))) 5)).alloc (.cells #[.int .i64 (199 + (k : Int)), rowVal wr.heap.size] 44)).grown hgr (fun q hq => Or.inl (by simpa using hq.symm))
        have hP7 : PutsOwn lo w7 v' (bl ++ [wr.heap.size]) (rowG posA (fullOf z0) (k + 1)) := by
          rw [rowG_more]
          exact P.out.more (l := fullOf z0 k) hown hgr (show lo ≤ wr.heap.size from by rw [HLO.out]; exact KP.out.1.size)
        have P7 := Lib.hid hP7
        have W7 := Lib.hid (show ∀ g', v'.ownBlock = some g' → g' = gq ∨ wr.heap.size ≤ g' from fun g' hg' => by
          rcases hwh g' hg' with h | h
          · exact .inl h
          · simp at h; exact .inr (by omega))
        have OWQ := OW.out gq rfl
        have KP7 : KeepA w2 lo w7 := ⟨KP.out.1.trans (o7.mono (fun q _ e => by subst e; exact (P.out.own.lt _ rfl).1)), o7.keeps KP.out.2 (fun e => OWQ e.symm)⟩
        have KP7 := Lib.hid KP7
        clear hown hgr hwh hP7 c0 o7
        go_wp2_with fail
        go_roundw
        case rel => exact ⟨k + 1, bl ++ [wr.heap.size], by go_num, by omega, by omega, P7.out, fun g' hg' => by have := KP.out.2; have := lt_of_heap this; rcases W7.out g' hg' with h | h <;> omega, KP7.out⟩
        case measure => simp [intOf]; omega
      · have hstop : (k = len0 ∧ ¬ k < len0) ∨ (k < len0 ∧ k = 40 ∧ ¬ k < 40) := by omega
        clear hgo
        rcases hstop with ⟨-, hstop⟩ | ⟨hstop1, -, hstop⟩
        · go_wp2_with fail
          go_meet
          case rel => exact ⟨k, bl, hk2, P.out, OW.out, KP.out⟩
        · go_wp2_with fail
          go_meet
          case rel => exact ⟨k, bl, hk2, P.out, OW.out, KP.out⟩
  case rest =>
    clear PA0 KA0
    obtain ⟨ka, bla, hka, hpa, howa, hkpa⟩ := hcut
    obtain ⟨ga, ca, hv⟩ := hpa.shape
    subst hv
    obtain ⟨lb, hlb⟩ : ∃ lb, lb = wc.heap.size := ⟨_, rfl⟩
    have HLB := Lib.hid (show lo + 1 < lb from by rw [hlb]; exact lt_of_heap hkpa.2)
    have HGA := Lib.hid (rowG_group (pos := posA) (f := fullOf z0) ka hka posA_in posA_ne (fullOf_length z0))
    have PB0 := Lib.hid (PutsOwn.empty (lo := lo + 1) hkpa.2 (Nat.le_refl _))
    obtain ⟨xa, hxa⟩ : ∃ xa, xa = some (⟨ga, 0, none⟩ : Addr) := ⟨_, rfl⟩
    have hpua := PutsOwn.puts2 hpa (fun i hi => HGA.out.full i hi) (gb := lo + 1) (T := fun q => Three p r jb q ∨ q = lo + 1 ∨ lb ≤ q) (fun g e => howa g (by cases e; rfl)) (PutsOwn.ne hpa hkpa.2) (fun q hq => by
      have := HLT.out
      have := HLO.out
      rcases hq with (rfl | rfl | rfl) | rfl | hq
      · left; omega
      · left; omega
      · left; omega
      · right; left; rfl
      · right; right; omega)
    have KB0 := Lib.hid (show KeepB w2 lo lb xa (rowG posA (fullOf z0) ka) p r jb wc from ⟨hkpa.1, Nat.le_of_eq hlb, by rw [hxa]; exact hpua⟩)
    have HLB2 : lo ≤ lb := by have := HLB.out; omega
    obtain ⟨na, hna⟩ : ∃ na, na = (rowG posA (fullOf z0) ka).length := ⟨_, rfl⟩
    have HNA := Lib.hid hna
    rw [← hna, ← hxa]
    clear hpa howa hkpa hlb hpua hna hxa
    go_upto_region 11 with fail
    go_upto_block 2 with fail
    go_cut [9] (fun v wc => ∃ (k : Nat) (bl : List Nat), k ≤ 40 ∧ PutsOwn (lo + 1) wc v bl (rowG posB (fullOf z1) k) ∧ (∀ g, v.ownBlock = some g → (g = lo + 1 ∨ lb ≤ g)) ∧ KeepB w2 lo lb xa (rowG posA (fullOf z0) ka) p r jb wc)
    case first =>
      as_aux_lemma =>
      go_wp2_with fail
      go_loopw [11, 9] (fun i v wr => ∃ (k : Nat) (bl : List Nat), i = .int .i64 k ∧ k ≤ len1 ∧ k ≤ 40 ∧ PutsOwn (lo + 1) wr v bl (rowG posB (fullOf z1) k) ∧ (∀ g, v.ownBlock = some g → (g = lo + 1 ∨ lb ≤ g)) ∧ KeepB w2 lo lb xa (rowG posA (fullOf z0) ka) p r jb wr) (fun i _ _ => 40 - (intOf i).toNat)
      case atStart => exact ⟨0, [], rfl, by omega, by omega, PB0.out, fun g hg => by simp [Value.ownBlock] at hg; omega, KB0.out⟩
      case round =>
        obtain ⟨k, bl, rfl, hk1, hk2, hpo, hown, hkeep⟩ := hrel
        have P := Lib.hid hpo
        have OW := Lib.hid hown
        have KP := Lib.hid hkeep
        clear hpo hown hkeep
        obtain ⟨gq, cq, hv⟩ := P.out.shape
        subst hv
        by_cases hgo : k < len1 ∧ k < 40
        · obtain ⟨hlt, hlt40⟩ := hgo
          have hlt40i : decide ((k : Int) < 40) = true := decide_eq_true (by omega)
          obtain ⟨x, rfl, hxl, hcx⟩ := C1.out k hlt
          have c0 := ((KP.out.1.below HB2.out.below HB2.out.hB (fun i hi => by have := HLO.out; have := HB2.out.hB; omega)).cell (p := x.add k) (by simp only [add_block]; exact hxl)).trans hcx
          unfold bv at c0
          clear hcx
          have HGL := Lib.hid (rowG_length (pos := posB) (f := fullOf z1) k)
          have hwk : IntKind.u8.wrap (k : Int) = (k : Int) := IntWalk.u8_in _ (by omega)
          obtain ⟨pm, hpm⟩ : ∃ q, q = 7 * k % 60 := ⟨_, rfl⟩
          have hw7 : IntKind.i64.wrap (7 * (k : Int)) = 7 * (k : Int) := IntWalk.i64_in _ (by omega)
          have hmod : (7 * (k : Int)) % 60 = (pm : Int) := by omega
          have hw1 : IntKind.i64.wrap (199 + (pm : Int)) = 199 + (pm : Int) := IntWalk.i64_in _ (by omega)
          have HPM := Lib.hid hpm
          clear hpm
          go_wp2_with fail
          refine (full_eq wr (z1.getD k 0) (UInt8.ofNat k) _ _ rfl (by rw [UInt8.toNat_ofNat']; omega)).mono ?_
          rintro e w4 ⟨rfl, rfl⟩
          go_wp2_with (at_builtin; refine wpList_append_here rfl (.tmp 77) (.tmp 90) 40 rfl (lo + 1) 44 i0 (.agg #[.int .i64 0, .slice none 0 0]) 2 32 Try.underlying40 HI.out.1 HI.out.2.1 HI.out.2.2.1 HI.out.2.2.2 rfl (by decide) gq cq _ _ rfl ((P.out.own.alloc _).alloc _) ⟨wr.heap.size + 1, 0, none⟩ 1 1 [.int .i64 (199 + (pm : Int)), rowVal wr.heap.size] rfl rfl (two_cells _ _ _ _ _) (by simp [rowVal, Value.oneCell']) (by rw [HGL.out]; unfold maxLen; omega) (by rw [HGL.out]; omega) (by have := (show lo + 1 ≤ wr.heap.size from by have := HLB.out; have := KP.out.2.1; omega); simp; omega) ?_; intro v' w7 hown hgr hwh)
          have o7 := (((Only.refl (fun q => q = gq) wr).alloc (.cells (bvs (fullBytes (z1.getD k 0) (UInt8.ofNat k))) 5)).alloc (.cells #[.int .i64 (199 + (pm : Int)), rowVal wr.heap.size] 44)).grown hgr (fun q hq => Or.inl (by simpa using hq.symm))
          have hP7 : PutsOwn (lo + 1) w7 v' (bl ++ [wr.heap.size]) (rowG posB (fullOf z1) (k + 1)) := by
            rw [rowG_more]
            unfold posB
            rw [← HPM.out]
            exact P.out.more (l := fullOf z1 k) hown hgr (show lo + 1 ≤ wr.heap.size from by have := HLB.out; have := KP.out.2.1; omega)
          have P7 := Lib.hid hP7
          have W7 := Lib.hid (show ∀ g', v'.ownBlock = some g' → g' = gq ∨ wr.heap.size ≤ g' from fun g' hg' => by
            rcases hwh g' hg' with h | h
            · exact .inl h
            · simp at h; exact .inr (by omega))
          have OWQ := OW.out gq rfl
          have KP7 : KeepB w2 lo lb xa (rowG posA (fullOf z0) ka) p r jb w7 := KP.out.step HLB2 (o7.mono (fun q _ e => by subst e; exact OWQ))
          have KP7 := Lib.hid KP7
          clear hown hgr hwh hP7 c0 o7
          go_wp2_with fail
          go_roundw
          case rel => exact ⟨k + 1, bl ++ [wr.heap.size], by go_num, by omega, by omega, P7.out, fun g' hg' => by have := KP.out.2.1; rcases W7.out g' hg' with h | h <;> omega, KP7.out⟩
          case measure => simp [intOf]; omega
        · have hstop : (k = len1 ∧ ¬ k < len1) ∨ (k < len1 ∧ k = 40 ∧ ¬ k < 40) := by omega
          clear hgo
          rcases hstop with ⟨-, hstop⟩ | ⟨hstop1, -, hstop⟩
          · go_wp2_with fail
            go_meet
            case rel => exact ⟨k, bl, hk2, P.out, OW.out, KP.out⟩
          · go_wp2_with fail
            go_meet
            case rel => exact ⟨k, bl, hk2, P.out, OW.out, KP.out⟩
    case rest =>
      as_aux_lemma =>
        clear PB0 KB0
        obtain ⟨kb, blb, hkb, hpb, howb, hkpb⟩ := hcut
        obtain ⟨gb, cb, hv⟩ := hpb.shape
        subst hv
        have HGB := Lib.hid (rowG_group (pos := posB) (f := fullOf z1) kb hkb posB_in posB_ne (fullOf_length z1))
        obtain ⟨xb, hxb⟩ : ∃ xb, xb = some (⟨gb, 0, none⟩ : Addr) := ⟨_, rfl⟩
        have hpub : ∀ T : Nat → Prop, (∀ q, T q → q < lo ∨ wc.heap.size ≤ q) → PutsAt T wc xb (rowG posB (fullOf z1) kb) := fun T hT => by
          rw [hxb]
          exact PutsOwn.puts2 hpb (fun i hi => HGB.out.full i hi) (gb := lo) (fun g e => by have := (hpb.own.lt gb rfl).1; cases e; omega) (fun b hin => by
            obtain ⟨i, hi⟩ := List.mem_iff_getElem?.1 hin
            have := (hpb.rows i b hi).1
            omega) (fun q hq => by rcases hT q hq with h | h; exact .inl (by omega); exact .inr (.inr h))
        obtain ⟨nb, hnb⟩ : ∃ nb, nb = (rowG posB (fullOf z1) kb).length := ⟨_, rfl⟩
        have HNB := Lib.hid hnb
        obtain ⟨lc, hlc⟩ : ∃ lc, lc = wc.heap.size := ⟨_, rfl⟩
        rw [← hnb, ← hxb]
        have PB1 := Lib.hid (hpub (fun q => Three p r jb q ∨ lc ≤ q) (fun q hq => by
          have := HLT.out
          have := HLO.out
          rcases hq with (rfl | rfl | rfl) | hq
          · left; omega
          · left; omega
          · left; omega
          · right; omega))
        have PA1 := Lib.hid hkpb.2.2
        have J1 := Lib.hid (show JSt w.heap.size w wc p r D jb 0 (0 : Nat) from J.out.apart hkpb.1 (fun q hq => by
          have := HLT.out
          have := HLO.out
          have := HB2.out.hB
          omega))
        have LC := Lib.hid hlc
        clear hpb howb hkpb hpub hnb hxb hlc

        obtain ⟨la, hla⟩ : ∃ q, q = rowG posA (fullOf z0) ka := ⟨_, rfl⟩
        obtain ⟨lb2, hlb2⟩ : ∃ q, q = rowG posB (fullOf z1) kb := ⟨_, rfl⟩
        rw [← hla] at HGA PA1 HNA
        rw [← hlb2] at HGB PB1 HNB
        clear hla hlb2
        obtain ⟨E1, hE1⟩ : ∃ q, q = applied la zeroImg := ⟨_, rfl⟩
        obtain ⟨E2, hE2⟩ : ∃ q, q = applied lb2 E1 := ⟨_, rfl⟩
        have hcm := commit_fit J1.out 1000 F.out (by decide) (by decide) (by decide) (by decide) (by decide) CL.out xa la na ca HNA.out HGA.out (fun i b bs hi => by
          obtain ⟨ad, a, c, h1, h2, h3, h4, h5, h6⟩ := PA1.out i b bs hi
          exact ⟨ad, a, c, h1, h2, h3, h4, fun e => h5 (.inl e), fun s e hne e2 => h6 s e hne (.inl e2)⟩)
        rw [← hE1] at hcm
        have HCM := Lib.hid hcm
        clear hcm
        go_wp2_with fail
        refine HCM.out.mono ?_
        rintro e w5 ⟨rfl, D1, j5, f5, cl5, o5⟩
        have J5 := Lib.hid j5
        have F5 := Lib.hid f5
        have CL5 := Lib.hid cl5
        have PB5 := Lib.hid (PB1.out.only o5 (fun i e => .inl e))
        have LC5 := Lib.hid (Nat.le_trans (Nat.le_of_eq LC.out) o5.size)
        clear j5 f5 cl5 o5 HCM PA1 HGA HNA
        go_wp2_with fail
        refine (rows_has J5.out.st 0 259 F5.out.len F5.out.off (by decide) (by decide) (by decide) (by decide)).mono ?_
        rintro e w6 ⟨v13, rfl, r6, -, o6⟩
        have hr6 := r6.mono J5.out.st.hB
        have e6 : rowsTo 0 D1.get (259 : Int).toNat = rowsTo 0 E1 259 := rowsTo_same CL5.out.out _
        rw [e6] at hr6
        have R6 := Lib.hid hr6
        have J6 := Lib.hid (J5.out.same o6)
        have PB6 := Lib.hid (PB5.out.grow o6)
        have LC6 := Lib.hid (Nat.le_trans LC5.out o6.size)
        clear r6 hr6 e6 o6
        go_wp2_with fail
        refine (clone_calls w6 p r D1 J6.out.st.disk).mono ?_
        rintro e w7 ⟨rfl, hb7, o7⟩
        have hpr7 : w6.heap.size < w7.heap.size ∧ w6.heap.size + 1 < w7.heap.size := by
          obtain ⟨es, c, hm, -⟩ := hb7.map
          exact ⟨lt_of_heap hb7.cells, lt_of_heap hm⟩
        have J7 := Lib.hid (J6.out.same o7)
        have R7 := Lib.hid (R6.out.only o7 (fun _ e => e.elim))
        have PB7 := Lib.hid (PB6.out.grow o7)
        obtain ⟨pb, hpb⟩ : ∃ q, q = w6.heap.size := ⟨_, rfl⟩
        have hpj : pb ≠ p ∧ pb ≠ r ∧ pb ≠ jb ∧ pb + 1 ≠ p ∧ pb + 1 ≠ r ∧ pb + 1 ≠ jb := by
          obtain ⟨_, _, hm, _⟩ := J6.out.st.disk.map
          have h1 := lt_of_heap J6.out.st.disk.cells
          have h2 := lt_of_heap hm
          have h3 := lt_of_heap J6.out.cells
          omega
        rw [← hpb] at hb7 hpr7 ⊢
        have B7 := Lib.hid hb7
        have PR7 := Lib.hid hpr7
        have PJ7 := Lib.hid hpj
        have HPB := Lib.hid hpb
        clear hb7 hpr7 hpj hpb o7
        go_wp2_with fail
        refine (writes_calls w7 p r D1 J7.out.st.disk).mono ?_
        rintro e w8 ⟨rfl, rfl⟩
        have hcm := commit_fit J7.out (1000 + 400) F5.out (by decide) (by decide) (by decide) (by decide) (by decide) CL5.out xb lb2 nb cb HNB.out HGB.out (fun i b bs hi => by
          obtain ⟨ad, a, c, h1, h2, h3, h4, h5, h6⟩ := PB7.out i b bs hi
          exact ⟨ad, a, c, h1, h2, h3, h4, fun e => h5 (.inl e), fun s e hne e2 => h6 s e hne (.inl e2)⟩)
        rw [← hE2] at hcm
        have HCM := Lib.hid hcm
        clear hcm
        go_wp2_with fail
        refine HCM.out.mono ?_
        rintro e w9 ⟨rfl, D2, j9, f9, cl9, o9⟩
        have J9 := Lib.hid j9
        have F9 := Lib.hid f9
        have CL9 := Lib.hid cl9
        have PB9 := Lib.hid (PB7.out.only o9 (fun i e => .inl e))
        have R9 := Lib.hid (R7.out.only o9 J7.out.noRow)
        have B9 := Lib.hid (B7.out.only o9 (fun e => by have := PJ7.out; rcases e with e | e | e <;> omega) (fun e => by have := PJ7.out; rcases e with e | e | e <;> omega))
        have LC9 := Lib.hid (show lc ≤ w9.heap.size from by have := LC6.out; have := PR7.out; have := o9.size; have := HPB.out; omega)
        have PR9 := Lib.hid (show pb < w9.heap.size ∧ pb + 1 < w9.heap.size from ⟨Nat.lt_of_lt_of_le PR7.out.1 o9.size, Nat.lt_of_lt_of_le PR7.out.2 o9.size⟩)
        clear j9 f9 cl9 o9 HCM
        go_wp2_with fail
        refine (rows_has J9.out.st 0 259 F9.out.len F9.out.off (by decide) (by decide) (by decide) (by decide)).mono ?_
        rintro e w10 ⟨v18, rfl, r10, -, o10⟩
        have hr10 := r10.mono J9.out.st.hB
        have e10 : rowsTo 0 D2.get (259 : Int).toNat = rowsTo 0 E2 259 := rowsTo_same CL9.out.out _
        rw [e10] at hr10
        have J10 := Lib.hid (J9.out.same o10)
        have TR := Lib.hid (show Tries w.heap.size w10.heap.size w w10 pb (pb + 1) D1 xb lb2 v13 v18 E1 E2 from ⟨B9.out.only o10 (fun e => e) (fun e => e), J10.out.st.below, J10.out.st.hB, Nat.le_refl _, J10.out.st.hB, ⟨Nat.lt_of_lt_of_le PR9.out.1 o10.size, Nat.lt_of_lt_of_le PR9.out.2 o10.size⟩, fun i b bs hi => by
          obtain ⟨ad, a, c, h1, h2, h3, h4, h5, h6⟩ := (PB9.out.grow o10) i b bs hi
          exact ⟨ad, a, c, h1, h2, h3, h4, fun e => h5 (.inr (by have := LC9.out; have := o10.size; omega)), fun s e hne e2 => h6 s e hne (.inr (by have := LC9.out; have := o10.size; omega))⟩, R9.out.only o10 (fun _ e => e.elim), hr10⟩)
        clear r10 hr10 e10 o10

        have hwr1 : 0 ≤ D1.writes ∧ D1.writes ≤ 5000 := ⟨F5.out.under.lo, by have := F5.out.under.hi; omega⟩
        have hwr2 : 0 ≤ D2.writes ∧ D2.writes ≤ 5000 := ⟨F9.out.under.lo, by have := F9.out.under.hi; omega⟩
        have hwd : IntKind.i64.wrap (D2.writes - D1.writes) = D2.writes - D1.writes := IntWalk.i64_in _ (by omega)
        go_wp2_with fail
        refine (writes_calls w10 p r D2 J10.out.st.disk).mono ?_
        rintro e w11 ⟨rfl, rfl⟩
        go_upto_region 22 with fail
        obtain ⟨tot, htot⟩ : ∃ q, q = D2.writes - D1.writes := ⟨_, rfl⟩
        rw [← htot]
        have htot2 : tot ≤ 5000 := by omega
        clear hwd htot hwr1 hwr2
        generalize w10.heap.size = lo3 at *
        go_wp2_with fail
        clear J5 J6 J7 J9 J10 R6 R7 R9 B7 B9 PB1 PB5 PB6 PB7 PB9 LC5 LC6 LC9 F9 CL9 PR7 PR9 PJ7 HPB F CL J J1
        go_loopw [21] (fun i wr => ∃ q : Nat, i = .int .i64 q ∧ Tries w.heap.size lo3 w wr pb (pb + 1) D1 xb lb2 v13 v18 E1 E2) (fun i _ => 5001 - (intOf i).toNat)
        case atStart => exact ⟨0, rfl, TR.out⟩
        case round =>
          clear TR
          obtain ⟨q, rfl, htr⟩ := hrel
          have TR := Lib.hid htr
          clear htr
          by_cases hlt : (q : Int) < tot
          · go_wp2_with fail
            refine (clone_calls wr pb (pb + 1) D1 TR.out.base).mono ?_
            rintro e w12 ⟨rfl, hb12, o12⟩
            obtain ⟨pc, hpc⟩ : ∃ q, q = wr.heap.size := ⟨_, rfl⟩
            have hlo12 : lo3 ≤ pc ∧ lo3 ≤ pc + 1 := by have := TR.out.hlo; omega
            rw [← hpc] at hb12 ⊢
            have T12 := Lib.hid (TR.out.grow o12)
            have S12 := Lib.hid (show DSt w.heap.size w w12 pc (pc + 1) D1 from ⟨hb12, T12.out.below, Nat.le_trans T12.out.hBlo hlo12.1, Nat.le_trans T12.out.hBlo hlo12.2, T12.out.hB⟩)
            have L12 := Lib.hid hlo12
            clear hpc hb12 o12 hlo12
            go_wp2_with fail
            refine (open_fit S12.out (1000 + 400) F5.out (by decide) (by decide) (by decide) (by decide) (by decide) (.inl CL5.out)).mono ?_
            rintro e w13 ⟨jc, D3, rfl, hjc, j13, f13, cl13, o13⟩
            have T13 := Lib.hid (T12.out.only o13 (fun i e => by have := L12.out; rcases e with rfl | rfl <;> omega) S12.out.noRow)
            have CR13 := Lib.hid (show Cr w.heap.size w w13 pc (pc + 1) jc D3 0 1 2000 E1 v13 from ⟨j13, f13.len, f13.under.mono (by decide), T13.out.r13⟩)
            have L13 := Lib.hid (show ∀ i, Three pc (pc + 1) jc i → lo3 ≤ i from fun i e => by have := L12.out; have := T12.out.hlo; rcases e with rfl | rfl | rfl <;> omega)
            have OFF13 := Lib.hid f13.off
            have CL13 := Lib.hid cl13
            clear hjc j13 f13 cl13 o13 S12 T12
            have hqi : I64 (q : Int) := ⟨by omega, by omega⟩
            go_wp2_with fail
            refine (CR13.out.fuse (q : Int) hqi).mono ?_
            rintro e w14 ⟨rfl, cr14, o14⟩
            have T14 := Lib.hid (T13.out.only o14 L13.out CR13.out.j.noRow)
            have CR14 := Lib.hid cr14
            clear cr14 o14 hqi
            have hcm := CR14.out.commit2 (fused_on _ OFF13.out) (by decide) (by decide) (by decide) (by decide) (by rw [fused_get]; exact CL13.out) xb lb2 nb cb HNB.out HGB.out (fun i b bs hi => by
              obtain ⟨ad, a, c, h1, h2, h3, h4, h5, h6⟩ := T14.out.puts i b bs hi
              exact ⟨ad, a, c, h1, h2, h3, h4, fun e => h5 (L13.out _ e), fun s e hne e2 => h6 s e hne (L13.out _ e2)⟩)
            rw [← hE2] at hcm
            have HCM := Lib.hid hcm
            clear hcm
            go_wp2_with fail
            refine HCM.out.mono ?_
            rintro e w15 ⟨c, D4, g4, rfl, cr15, nx15, hz15, hs15, o15⟩
            have T15 := Lib.hid (T14.out.only o15 L13.out CR14.out.j.noRow)
            have CR15 := Lib.hid cr15
            have hcc : c = 0 ∨ c = 2 := by
              by_cases h : c = 0
              · exact .inl h
              · exact .inr (nx15.off h).1
            have hsd : ∃ g F, Sound 259 0 g D4.get F ∧ ((g = 1 ∧ F = E1 ∧ c = 2) ∨ (g = 2 ∧ F = E2)) := by
              rcases hcc with h | h
              · exact ⟨2, E2, .inl (hz15 h).2, .inr ⟨rfl, rfl⟩⟩
              · rcases hs15 with h2 | h2
                · exact ⟨1, E1, h2, .inl ⟨rfl, rfl, h⟩⟩
                · exact ⟨2, E2, h2, .inr ⟨rfl, rfl⟩⟩
            obtain ⟨g, F, hsd, hgF⟩ := hsd
            have SD := Lib.hid hsd
            have HGF := Lib.hid hgF
            have HG6 : Hid (g < 1000000) := Lib.hid (by rcases hgF with ⟨rfl, _⟩ | ⟨rfl, _⟩ <;> decide)
            clear cr15 nx15 hz15 hs15 o15 hsd hgF HCM T14 CR14
            go_wp2_with fail
            refine CR15.out.boot.mono ?_
            rintro e w16 ⟨rfl, cr16, o16⟩
            have T16 := Lib.hid (T15.out.only o16 L13.out CR15.out.j.noRow)
            have CR16 := Lib.hid cr16
            clear cr16 o16 CR15 T15
            go_wp2_with fail
            refine (CR16.out.open rfl (by decide) (by decide) (by decide) HG6.out (by rw [booted_get]; exact SD.out)).mono ?_
            rintro e w17 ⟨v17, c17, D7, rfl, cr17, nx17, hz17, -, o17⟩
            have hc17 : c17 = 0 := by
              by_cases h : c17 = 0
              · exact h
              · exact absurd rfl (nx17.off h).2.2.2
            subst hc17
            obtain ⟨hcl17, j3, rfl, hj17⟩ := hz17 rfl
            have T17 := Lib.hid (T16.out.only o17 L13.out CR16.out.j.noRow)
            have CR17 := Lib.hid (cr17.other hj17)
            have ON17 := Lib.hid (nx17.on rfl).1
            have e17 := Lib.hid (rowsTo_same (at_ := 0) hcl17.out 259)
            clear cr17 nx17 hz17 hcl17 hj17 o17 CR16 T16
            rcases hcc with rfl | rfl
            · have hg2 : g = 2 ∧ F = E2 := by
                rcases HGF.out with ⟨_, _, h⟩ | h
                · cases h
                · exact h
              obtain ⟨rfl, rfl⟩ := hg2
              as_aux_lemma =>
              go_wp2_with fail
              refine (CR17.out.rows ON17.out (by decide) (by decide)).mono ?_
              rintro e w18 ⟨v18n, rfl, r18, cr18, o18⟩
              rw [e17.out] at r18
              have R18 := Lib.hid (r18.mono CR17.out.j.st.hB).rows
              have T18 := Lib.hid (T17.out.grow o18)
              have J18 := Lib.hid cr18.j
              clear r18 cr18 o18
              go_wp2_with fail
              refine (same_calls w18 w.heap.size _ _ _ _ R18.out T18.out.r13.rows).mono ?_
              rintro e w19 ⟨rfl, o19⟩
              have T19 := Lib.hid (T18.out.grow o19)
              have R19 := Lib.hid (R18.out.only o19 (fun _ e => e.elim))
              have J19 := Lib.hid (J18.out.same o19)
              clear o19
              go_wp2_with fail
              refine (same_calls w19 w.heap.size _ _ _ _ R19.out T19.out.r18.rows).mono ?_
              rintro e w20 ⟨rfl, o20⟩
              have T20 := Lib.hid (T19.out.grow o20)
              have J20 := Lib.hid (J19.out.same o20)
              clear o20
              go_wp2_with fail
              refine (groups_calls w20 pc j3 0 _ J20.out.cells).mono ?_
              rintro e w21 ⟨rfl, rfl⟩
              have hq40 : 0 ≤ tot := by omega
              obtain ⟨td, htd⟩ : ∃ q, q = tot / 40 := ⟨_, rfl⟩
              have hqt : tot.tdiv 40 = td := by rw [htd]; exact Int.tdiv_eq_ediv_of_nonneg hq40
              have htb : 0 ≤ td ∧ td ≤ 200 := by omega
              have hwq : IntKind.i64.wrap td = td := IntWalk.i64_in _ (by omega)
              have hw1 : IntKind.i64.wrap ((q : Int) + 1) = (q : Int) + 1 := IntWalk.i64_in _ (by omega)
              have hw2 : IntKind.i64.wrap ((q : Int) + 1 + td) = (q : Int) + 1 + td := IntWalk.i64_in _ (by omega)
              have HTB := Lib.hid htb
              clear htb htd
              generalize decide (rowsTo 0 (applied lb2 (applied la zeroImg)) 259 = rowsTo 0 (applied la zeroImg) 259) = ex
              cases ex with
              | true =>
                go_wp2_with fail
                go_roundw
                case rel => exact ⟨q + 1 + td.toNat, by have := HTB.out; congr 1; omega, T20.out⟩
                case measure => have := HTB.out; simp [intOf]; omega
              | false =>
                go_wp2_with fail
                go_roundw
                case rel => exact ⟨q + 1 + td.toNat, by have := HTB.out; congr 1; omega, T20.out⟩
                case measure => have := HTB.out; simp [intOf]; omega
            · rcases HGF.out with ⟨rfl, rfl, -⟩ | ⟨rfl, rfl⟩
              · as_aux_lemma =>
                go_wp2_with fail
                refine (CR17.out.rows ON17.out (by decide) (by decide)).mono ?_
                rintro e w18 ⟨v18n, rfl, r18, cr18, o18⟩
                rw [e17.out] at r18
                have R18 := Lib.hid (r18.mono CR17.out.j.st.hB).rows
                have T18 := Lib.hid (T17.out.grow o18)
                have J18 := Lib.hid cr18.j
                clear r18 cr18 o18
                go_wp2_with fail
                refine (same_calls w18 w.heap.size _ _ _ _ R18.out T18.out.r13.rows).mono ?_
                rintro e w19 ⟨rfl, o19⟩
                have T19 := Lib.hid (T18.out.grow o19)
                have R19 := Lib.hid (R18.out.only o19 (fun _ e => e.elim))
                have J19 := Lib.hid (J18.out.same o19)
                clear o19
                go_wp2_with fail
                refine (same_calls w19 w.heap.size _ _ _ _ R19.out T19.out.r18.rows).mono ?_
                rintro e w20 ⟨rfl, o20⟩
                have T20 := Lib.hid (T19.out.grow o20)
                have J20 := Lib.hid (J19.out.same o20)
                clear o20
                go_wp2_with fail
                refine (groups_calls w20 pc j3 0 _ J20.out.cells).mono ?_
                rintro e w21 ⟨rfl, rfl⟩
                have hq40 : 0 ≤ tot := by omega
                obtain ⟨td, htd⟩ : ∃ q, q = tot / 40 := ⟨_, rfl⟩
                have hqt : tot.tdiv 40 = td := by rw [htd]; exact Int.tdiv_eq_ediv_of_nonneg hq40
                have htb : 0 ≤ td ∧ td ≤ 200 := by omega
                have hwq : IntKind.i64.wrap td = td := IntWalk.i64_in _ (by omega)
                have hw1 : IntKind.i64.wrap ((q : Int) + 1) = (q : Int) + 1 := IntWalk.i64_in _ (by omega)
                have hw2 : IntKind.i64.wrap ((q : Int) + 1 + td) = (q : Int) + 1 + td := IntWalk.i64_in _ (by omega)
                have HTB := Lib.hid htb
                clear htb htd
                generalize decide (rowsTo 0 (applied la zeroImg) 259 = rowsTo 0 (applied lb2 (applied la zeroImg)) 259) = ex
                go_wp2_with fail
                go_roundw
                case rel => exact ⟨q + 1 + td.toNat, by have := HTB.out; congr 1; omega, T20.out⟩
                case measure => have := HTB.out; simp [intOf]; omega
              · as_aux_lemma =>
                go_wp2_with fail
                refine (CR17.out.rows ON17.out (by decide) (by decide)).mono ?_
                rintro e w18 ⟨v18n, rfl, r18, cr18, o18⟩
                rw [e17.out] at r18
                have R18 := Lib.hid (r18.mono CR17.out.j.st.hB).rows
                have T18 := Lib.hid (T17.out.grow o18)
                have J18 := Lib.hid cr18.j
                clear r18 cr18 o18
                go_wp2_with fail
                refine (same_calls w18 w.heap.size _ _ _ _ R18.out T18.out.r13.rows).mono ?_
                rintro e w19 ⟨rfl, o19⟩
                have T19 := Lib.hid (T18.out.grow o19)
                have R19 := Lib.hid (R18.out.only o19 (fun _ e => e.elim))
                have J19 := Lib.hid (J18.out.same o19)
                clear o19
                go_wp2_with fail
                refine (same_calls w19 w.heap.size _ _ _ _ R19.out T19.out.r18.rows).mono ?_
                rintro e w20 ⟨rfl, o20⟩
                have T20 := Lib.hid (T19.out.grow o20)
                have J20 := Lib.hid (J19.out.same o20)
                clear o20
                go_wp2_with fail
                refine (groups_calls w20 pc j3 0 _ J20.out.cells).mono ?_
                rintro e w21 ⟨rfl, rfl⟩
                have hq40 : 0 ≤ tot := by omega
                obtain ⟨td, htd⟩ : ∃ q, q = tot / 40 := ⟨_, rfl⟩
                have hqt : tot.tdiv 40 = td := by rw [htd]; exact Int.tdiv_eq_ediv_of_nonneg hq40
                have htb : 0 ≤ td ∧ td ≤ 200 := by omega
                have hwq : IntKind.i64.wrap td = td := IntWalk.i64_in _ (by omega)
                have hw1 : IntKind.i64.wrap ((q : Int) + 1) = (q : Int) + 1 := IntWalk.i64_in _ (by omega)
                have hw2 : IntKind.i64.wrap ((q : Int) + 1 + td) = (q : Int) + 1 + td := IntWalk.i64_in _ (by omega)
                have HTB := Lib.hid htb
                clear htb htd
                generalize decide (rowsTo 0 (applied lb2 (applied la zeroImg)) 259 = rowsTo 0 (applied la zeroImg) 259) = ex
                cases ex with
                | true =>
                  go_wp2_with fail
                  go_roundw
                  case rel => exact ⟨q + 1 + td.toNat, by have := HTB.out; congr 1; omega, T20.out⟩
                  case measure => have := HTB.out; simp [intOf]; omega
                | false =>
                  go_wp2_with fail
                  go_roundw
                  case rel => exact ⟨q + 1 + td.toNat, by have := HTB.out; congr 1; omega, T20.out⟩
                  case measure => have := HTB.out; simp [intOf]; omega
          · have hlt2 : ¬ (q : Int) < tot := hlt
            go_wp2_with fail
            go_ret
            exact ⟨rfl, TR.out.below⟩

/-! ### THE ROW's STEP -/
set_option maxRecDepth 100000 in
theorem lifted (os : Os) (started : os.Started) (H : Type) (enc : TypeId × Value → H) :
    ReturnsInHanded {} Try.checked os 8 .any (Rows.journalStepsSpec.pre6 enc Try.prog Try.f8 Rows.journalStepsRow.domain false) (Rows.journalStepsSpec.post enc Try.prog Try.f8 false true false false) := by
  refine returnsInHanded_of_change (C := Try.checked) own started (by kernel_rfl) Try.func8
    (ChangeSpec.witness6 (enc := enc) (C := Try.checked) false ⟨#[], #[.slice none 0 0, .slice none 0 0], []⟩ 8 (by kernel_rfl) (by kernel_rfl) (by kernel_rfl) (by kernel_rfl)) ?_
  intro W base args ds gs before hval0 hW hcnd _
  have hval : ∀ (j : Nat) t v, Try.f8.params[j]? = some t → args[j]? = some v → Value.okWide Try.prog W .any base t v := hval0
  have hW' := hW
  obtain ⟨p, q, hA0, hV, rfl, hfz, hnd⟩ := hW
  have hA : DataW.TrodAll enc Try.prog W 0 (fun _ => true) true Try.f8.params.toList args.toList ds p := hA0
  rw [Try.params8] at hA hval
  obtain ⟨v0, vs0, d0, ds0, p0, q0, hargs, rfl, rfl, h0, r0⟩ := trodAll_cons hA
  obtain ⟨v1, vs1, d1, ds1, p1, q1, rfl, rfl, rfl, h1, r1⟩ := trodAll_cons r0
  obtain ⟨rfl, rfl, rfl⟩ := trodAll_nil r1
  obtain rfl : args = #[v0, v1] := by cases args; simp_all
  obtain ⟨rfl, rfl⟩ := trodVars_none hV
  obtain ⟨a0, len0, cap0, rfl⟩ := okWide_slice Try.underlying32 (hval 0 32 v0 rfl rfl)
  have k0 := h0
  have lt0 : ∀ x ∈ p0, x.block < W.heap.size := by obtain ⟨m, hm⟩ := k0; exact DataW.trod_lt m _ _ _ hm
  have w0 : BytesArg W a0 len0 := by
    obtain ⟨fuel, hf⟩ := h0
    exact bytes_open hf
  obtain ⟨a1, len1, cap1, rfl⟩ := okWide_slice Try.underlying32 (hval 1 32 v1 rfl rfl)
  have k1 := h1
  have lt1 : ∀ x ∈ p1, x.block < W.heap.size := by obtain ⟨m, hm⟩ := k1; exact DataW.trod_lt m _ _ _ hm
  have w1 : BytesArg W a1 len1 := by
    obtain ⟨fuel, hf⟩ := h1
    exact bytes_open hf
  clear hA0 hval0
  refine (walk a0 len0 cap0 a1 len1 cap1 W w0 w1).mono fun e W' ⟨he, bel⟩ => ?_
  subst he
  exact ⟨_, rfl, _, _, _, [], _, [], hW', trodAll_mk1 (shut_bool Try.underlying4 _), (trodAll_cons_mk (Below.trod laidOut (by kernel_rfl) (of_decide_eq_true (by kernel_rfl)) k0 bel lt0) (trodAll_cons_mk (Below.trod laidOut (by kernel_rfl) (of_decide_eq_true (by kernel_rfl)) k1 bel lt1) trodAll_mk0)), rfl, bel.frame _, fun h => by cases h⟩

theorem over : Rows.journalStepsRow.holds Try.pinned (OpenSpec.ofChange Rows.journalStepsSpec) :=
  OpenClaim.holds_of_wide 8 Try.f8 rfl rfl rfl rfl rfl rfl rfl ⟨rfl, rfl, rfl, rfl, rfl⟩ rfl rfl rfl rfl rfl (by kernel_rfl) Try.func8 (by kernel_rfl)
    (of_decide_eq_true (by kernel_rfl)) (by unfold Func.isWrapper; first | (rw [if_pos (by decide +kernel)]; kernel_rfl) | (rw [if_neg (by decide +kernel)]; exact ⟨rfl, rfl⟩))
    (fun os started H enc _ => lifted os started H enc)

theorem proved : Rows.JournalStepsSaid := over
#print axioms proved
end Go.Proofs.Ytpmlmjbhgonegaa.journalSteps
