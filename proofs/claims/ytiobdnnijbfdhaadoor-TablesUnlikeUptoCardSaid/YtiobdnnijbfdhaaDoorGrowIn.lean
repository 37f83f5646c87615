/- Regions in a round of a loop over an iterator, at the wide fence: walked as anywhere. -/
import Derived.Test.YtiobdnnijbfdhaaDoorGrowU
import Derived.OrdersIn
import Derived.TacticsIn
import Derived.RangeFuncCalls
namespace Go.Proofs.YtiobdnnijbfdhaaDoor
open Go.RowKit
section
variable {l n : Nat} {P : Program}
theorem rowsIn_wide {row : String} {args : Array Value} {w : World} {R : Value → World → Prop} (h : Rows P row args w R) : RowsIn (Fence.wide.inRound l) n P row args w R :=
  fun c cs _ => let ⟨v, w', r, s⟩ := h c cs; ⟨v, w', r, stepsIn_wide.2 s⟩
theorem upon_in {o : Oper} {a : Act} {next : Act → World → Prop} {Q : Exit → Act → World → Prop} {r : Result Next} (h : o.upon P a next Q r) : o.uponIn (Fence.wide.inRound l) n P a next Q r := by
  cases r with
  | ok x w' =>
    cases x <;> simp only [Oper.upon, Oper.uponIn] at h ⊢ <;> first
      | exact h
      | exact ⟨fun h => by simp [Fence.wide] at h, (callsIn_wide.2 h).inRound l⟩
      | exact ⟨fun h => by simp [Fence.wide] at h, rowsIn_wide h⟩
      | exact h.elim
  | halt x w' => cases x <;> simp only [Oper.upon, Oper.uponIn] at h ⊢ <;> exact h
def noDefer (ops : Array Oper) : Bool := ops.toList.all fun o => match o.op with | .defer _ => false | _ => true
theorem noDefer_spec {ops : Array Oper} (h : noDefer ops = true) {o : Oper} (ho : o ∈ ops.toList) : ∀ c, o.op ≠ .defer c := by
  intro c e
  have := List.all_eq_true.1 h o ho
  rw [e] at this
  cases this
theorem wpOp_in1 {o : Oper} {a : Act} {w : World} {K : Act → World → Prop} {Q : Exit → Act → World → Prop} (hd : ∀ c, o.op ≠ .defer c) (h : o.wp P a w K Q) : o.wpIn (Fence.wide.inRound l) n P a w K Q := by
  refine ⟨fun _ _ => trivial, ?_⟩
  have e : o.semAt (Fence.wide.inRound l).round a.eval = execOp a.eval o := Oper.semAt_some l _ _ hd
  rw [e]
  exact upon_in h
theorem wpList_in {ops : Array Oper} {Q : Exit → Act → World → Prop} (hL : ¬ LetsOut Q) : ∀ (L : List Oper) (a : Act) (w : World), (∀ o ∈ L, ∀ c, o.op ≠ .defer c) → wpList P ops Q L a w → wpListIn (Fence.wide.inRound l) n P ops Q L a w
  | [], a, w, _, h => h
  | o :: L, a, w, hd, h => by
    unfold wpList at h
    unfold wpListIn
    split at h
    · rename_i hw
      rw [if_pos hw]
      rcases h with h | h
      · exact Oper.wpIn_mono (fun a w hk => wpList_in hL L a w (fun o ho => hd o (by simp [ho])) hk) (wpOp_in1 (hd o (by simp)) h)
      · exact absurd h.2 hL
    · rename_i hw
      rw [if_neg hw]
      exact ⟨fun _ _ => trivial, wpList_in hL L _ w (fun o ho => hd o (by simp [ho])) h⟩
theorem wpAny_in {ops : Array Oper} {md : Region.Mode} {Q : Exit → Act → World → Prop} (hL : ¬ LetsOut Q) (hd : noDefer ops = true) : ∀ (fuel : Nat) (listed : Array Bool) (a : Act) (w : World), wpAny P md ops Q fuel listed a w → wpAnyIn (Fence.wide.inRound l) n P md ops Q fuel listed a w
  | 0, _, _, _, h => h
  | fuel + 1, listed, a, w, h => by
    unfold wpAny at h
    unfold wpAnyIn
    refine ⟨h.1, fun i hi => ?_⟩
    have h := h.2 i hi
    unfold wpOp at h
    unfold wpOpIn
    split at h
    · rename_i ho
      simp only [ho]
      exact wpAny_in hL hd fuel _ _ _ h
    · rename_i o ho
      simp only [ho]
      split at h
      · rename_i hw
        rw [if_pos hw]
        rcases h with h | h
        · exact Oper.wpIn_mono (fun a w hk => wpAny_in hL hd fuel _ a w hk) (wpOp_in1 (noDefer_spec hd (by rw [Array.mem_toList_iff]; exact Array.mem_of_getElem? ho)) h)
        · exact absurd h.2 hL
      · rename_i hw
        rw [if_neg hw]
        exact ⟨fun _ _ => trivial, wpAny_in hL hd fuel _ _ _ h⟩
theorem wpIn_region_lit_round {id : Nat} {L : List Oper} {Q : Exit → Act → World → Prop} {a : Act} {w : World} (hL : ¬ LetsOut Q) (hd : noDefer L.toArray = true) (h : wpList P L.toArray Q L a w) : (Code.region id L.toArray false).wpIn (Fence.wide.inRound l) n P Q a w :=
  wpIn_region_lit (wpList_in hL L a w (fun o ho => noDefer_spec hd (by simpa using ho)) h)
theorem wpIn_region_any_round {id : Nat} {ops : Array Oper} {Q : Exit → Act → World → Prop} {a : Act} {w : World} (hL : ¬ LetsOut Q) (hd : noDefer ops = true) (hm : P.follows .mixedOrders = true)
    (h : wpAny P .any ops Q ops.size (Array.replicate ops.size false) a w.drew) : (Code.region id ops true).wpIn (Fence.wide.inRound l) n P Q a w :=
  wpIn_region_any hm (wpAny_in hL hd _ _ _ _ h)
/-- Only the way through: no word on how the region may be left otherwise. -/
def Through (Q : Exit → Act → World → Prop) : Exit → Act → World → Prop := fun e a w => e = .normal ∧ Q .normal a w
theorem through_not {Q : Exit → Act → World → Prop} : ¬ LetsOut (Through Q) := fun ⟨_, _, h, _⟩ => by cases h
theorem wpIn_region_lit_round2 {id : Nat} {L : List Oper} {Q : Exit → Act → World → Prop} {a : Act} {w : World} (hd : noDefer L.toArray = true) (h : wpList P L.toArray (Through Q) L a w) : (Code.region id L.toArray false).wpIn (Fence.wide.inRound l) n P Q a w :=
  wpIn_mono (wpIn_region_lit_round through_not hd h) (fun e a w ⟨he, hq⟩ => by subst he; exact hq)
theorem wpIn_region_any_round2 {id : Nat} {ops : Array Oper} {Q : Exit → Act → World → Prop} {a : Act} {w : World} (hd : noDefer ops = true) (hm : P.follows .mixedOrders = true)
    (h : wpAny P .any ops (Through Q) ops.size (Array.replicate ops.size false) a w.drew) : (Code.region id ops true).wpIn (Fence.wide.inRound l) n P Q a w :=
  wpIn_mono (wpIn_region_any_round through_not hd hm h) (fun e a w ⟨he, hq⟩ => by subst he; exact hq)
end
end Go.Proofs.YtiobdnnijbfdhaaDoor
