/- LayoutEntries' plain law: any entries are put, or refused, as the document says, and taken as they were. -/
import Derived.Test.YtgppfalpncbmbaaDoorEntSpec
import Derived.Test.YtgppfalpncbmbaaDoorPEx10
namespace Go.Proofs.YtgppfalpncbmbaaDoor.PE
open Go.RowKit Go.Proofs.YtgppfalpncbmbaaDoorW.PrintWords Go.Proofs.YtgppfalpncbmbaaDoorW.PrintLast Go.Proofs.YtgppfalpncbmbaaDoorW.PrintMore
open Lay (nameOk letters letter)

theorem strOfNums_bytesOf (s : ByteArray) : strOfNums (bytesOf s) = s := by
  apply Go.WideShapes.bytes_inj
  rw [strOfNums_data]
  unfold bytesOf
  rw [List.map_map]
  have : ((fun z : Int => UInt8.ofNat z.toNat) ∘ fun b : UInt8 => ((b.toNat : Nat) : Int)) = id := by
    funext b
    simp
  rw [this, List.map_id]
theorem drop_ents : ∀ (l : List S47), (∀ x ∈ l, Good x) → ∀ k, k ≤ l.length → (l.flatMap entB).drop (32 * k) = (l.drop k).flatMap entB := by
  intro l
  induction l with
  | nil => intro _ k hk; simp
  | cons x l ih =>
    intro hg k hk
    cases k with
    | zero => rfl
    | succ k =>
      rw [List.flatMap_cons, List.drop_succ_cons, ← ih (fun y hy => hg y (by simp [hy])) k (by simpa using hk)]
      have hx : (entB x).length = 32 := entB_len (by have := (hg x (by simp)).1; omega)
      rw [show 32 * (k + 1) = (entB x).length + 32 * k by omega, List.drop_append, List.drop_eq_nil_of_le (Nat.le_add_right _ _), List.nil_append, Nat.add_sub_cancel_left]
theorem ents_len2 {l : List S47} (hg : ∀ x ∈ l, Good x) : (l.flatMap entB).length = 32 * l.length := by
  induction l with
  | nil => rfl
  | cons x l ih =>
    rw [List.flatMap_cons, List.length_append, ih (fun y hy => hg y (by simp [hy])), entB_len (by have := (hg x (by simp)).1; omega), List.length_cons]
    omega
theorem ent_at {l : List S47} (hg : ∀ x ∈ l, Good x) {k : Nat} (hk : k < l.length) : (l.flatMap entB).getD (32 * k) 0 = l[k].f0 ∧ (l.flatMap entB).getD (32 * k + 1) 0 = (l[k].f1.size : Int) ∧ entAt (l.flatMap entB) k = l[k] := by
  have hx := hg l[k] (List.getElem_mem _)
  obtain ⟨h1, h2, h3⟩ := hx
  have hd := drop_ents l hg k (by omega)
  rw [List.drop_eq_getElem_cons hk, List.flatMap_cons] at hd
  have a0 : (l.flatMap entB).getD (32 * k) 0 = l[k].f0 := by
    have : (l.flatMap entB).getD (32 * k) 0 = ((l.flatMap entB).drop (32 * k)).getD 0 0 := by simp only [List.getD_eq_getElem?_getD, List.getElem?_drop, Nat.add_zero]
    rw [this, hd]
    show l[k].f0 % 256 = l[k].f0
    omega
  have a1 : (l.flatMap entB).getD (32 * k + 1) 0 = (l[k].f1.size : Int) := by
    have : (l.flatMap entB).getD (32 * k + 1) 0 = ((l.flatMap entB).drop (32 * k)).getD 1 0 := by simp only [List.getD_eq_getElem?_getD, List.getElem?_drop]
    rw [this, hd]
    show (l[k].f1.size : Int) % 256 = (l[k].f1.size : Int)
    omega
  refine ⟨a0, a1, ?_⟩
  unfold entAt
  rw [a0, a1, ← List.drop_drop, hd, Int.toNat_natCast]
  have e : List.drop 2 (entB l[k] ++ (l.drop (k + 1)).flatMap entB) = bytesOf l[k].f1 ++ (List.replicate (30 - l[k].f1.size) 0 ++ (l.drop (k + 1)).flatMap entB) := by
    generalize (l.drop (k + 1)).flatMap entB = R
    unfold entB
    rw [List.append_assoc, List.append_assoc]
    rfl
  rw [e, List.take_append_of_le_length (by rw [bytesOf_length]; exact Nat.le_refl _), List.take_of_length_le (by rw [bytesOf_length]; exact Nat.le_refl _), strOfNums_bytesOf]
theorem chunks_ents {l : List S47} (hg : ∀ x ∈ l, Good x) : chunks (l.flatMap entB) = l.length := by unfold chunks; rw [ents_len2 hg]; omega
/-- What was put is taken as it was. -/
theorem take_put {l : List S47} (hn : l.length ≤ 16) (hall : (List.range l.length).all (entOk l) = true) : layout_TakeEntries.f (l.flatMap entB) = some (l, 0) := by
  have hg := good_of hall
  have hb : (l.flatMap entB).all (fun x => decide (0 ≤ x) && decide (x < 256)) = true := List.all_eq_true.2 fun x hx => by
    have := byt_ents l x hx
    simp [this.1, this.2]
  have hmap : (List.range l.length).map (entAt (l.flatMap entB)) = l := by
    apply List.ext_getElem
    · simp
    · intro i h1 h2
      simp only [List.getElem_map, List.getElem_range]
      exact (ent_at hg h2).2.2
  have hok : (List.range l.length).all (takeOk (l.flatMap entB)) = true := List.all_eq_true.2 fun k hk => by
    rw [List.mem_range] at hk
    unfold takeOk
    rw [(ent_at hg hk).2.1, ents_len2 hg, decide_eq_true (by omega), decide_eq_true]
    · rfl
    · have := (hg l[k] (List.getElem_mem _)).1
      omega
  unfold layout_TakeEntries.f
  rw [if_pos ⟨by rw [ents_len2 hg]; omega, hb⟩, chunks_ents hg, if_pos hok, hmap]
  unfold layout_PutEntries.f
  rw [if_neg (by omega), if_pos hall, Option.bind_some, if_pos ⟨rfl, rfl⟩]
theorem entOk_eq (l : List S47) (j : Nat) : entOk l j = entOkR l j := by
  unfold entOk entOkR
  rw [name_f]
  congr 2
  cases nameOk (rd_T47 l (j : Int)).f1.data.toList <;> rfl
theorem put_eq {l : List S47} (hz : ∀ x ∈ l, x.f1.size ≤ 4611686018427387904) : majordomoref03_PutEntries.f l = layout_PutEntries.f l := by
  unfold majordomoref03_PutEntries.f layout_PutEntries.f
  rw [if_pos (List.all_eq_true.2 fun x hx => decide_eq_true (hz x hx)), show entOkR l = entOk l from funext fun j => (entOk_eq l j).symm]
theorem ev_end (l : List S47) (hz : l.length ≤ 1048576) : ∀ (d i : Nat), i + d = l.length → Ev (fun k => majordomolaw03_LayoutEntries.l1 k l l (i : Int)) true := by
  intro d
  induction d with
  | zero =>
    intro i hi
    refine Ev.step (f := fun _ => some true) (fun k => ?_) (Ev.now _)
    simp only [majordomolaw03_LayoutEntries.l1]
    rw [if_neg (by omega)]
  | succ d ih =>
    intro i hi
    have h := ih (i + 1) (by omega)
    refine Ev.step (fun k => ?_) h
    simp only [majordomolaw03_LayoutEntries.l1]
    rw [if_pos (by omega), if_pos (by omega), if_pos (by omega)]
    simp only [beq_self_eq_true, Bool.not_true, Bool.or_self, Bool.false_eq_true, if_false]
    rw [wv _ ((i + 1 : Nat) : Int) (by omega) (by omega) (by omega)]
theorem ev_loop (l : List S47) (p : List Int) (g : Int) (hz : l.length ≤ 1048576) (hs : ∀ x ∈ l, x.f1.size ≤ 4611686018427387904) (hp : layout_PutEntries.f l = some (p, g)) : ∀ (d i : Nat), i + d = l.length → Ev (fun k => majordomolaw03_LayoutEntries.l0 k l l p g (i : Int)) true := by
  intro d
  induction d with
  | zero =>
    intro i hi
    by_cases hg : g = 0
    · subst hg
      have ht : layout_TakeEntries.f p = some (l, 0) := by
        unfold layout_PutEntries.f at hp
        split at hp
        · simp at hp
        · split at hp
          · rename_i h1 h2
            simp only [Option.some.injEq, Prod.mk.injEq, and_true] at hp
            subst hp
            exact take_put (by omega) h2
          · simp at hp
      have h2 : Ev (fun k => majordomolaw03_LayoutEntries.j2 k l l false) true := by
        refine Ev.step (fun k => ?_) (ev_end l hz l.length 0 (by omega))
        simp only [majordomolaw03_LayoutEntries.j2]
        rfl
      refine Ev.step (fun k => ?_) h2
      simp only [majordomolaw03_LayoutEntries.l0]
      rw [if_neg (by omega), ht]
      simp only [if_true, Option.bind_some, bne_self_eq_false]
    · refine Ev.step (f := fun _ => some true) (fun k => ?_) (Ev.now _)
      simp only [majordomolaw03_LayoutEntries.l0]
      rw [if_neg (by omega), if_neg hg]
  | succ d ih =>
    intro i hi
    have h := ih (i + 1) (by omega)
    have hlt : i < l.length := by omega
    have hn := ev_refName (rd_T47 l (i : Int)).f1 (by rw [rd_get47 hlt]; exact hs _ (List.getElem_mem _))
    refine Ev.step (f := fun k => (majordomoref03_Name.f k (rd_T47 l (i : Int)).f1).bind fun b => if (nameOk (rd_T47 l (i : Int)).f1.data.toList != b) = true then some false else majordomolaw03_LayoutEntries.l0 k l l p g ((i + 1 : Nat) : Int)) (fun k => ?_) (Ev.bind hn (Ev.congr (f := fun k => majordomolaw03_LayoutEntries.l0 k l l p g ((i + 1 : Nat) : Int)) (fun k => ?_) h))
    · simp only [majordomolaw03_LayoutEntries.l0]
      rw [if_pos (by omega), if_pos (by omega), if_pos (by omega)]
      simp only [beq_self_eq_true, Bool.not_true, Bool.or_self, Bool.false_eq_true, if_false]
      rw [name_f, Option.bind_some, wv _ ((i + 1 : Nat) : Int) (by omega) (by omega) (by omega)]
    · simp only [bne_self_eq_false, Bool.false_eq_true, if_false]
theorem ev_LayoutEntries (l : List S47) (hz : l.length ≤ 1048576) (hs : ∀ x ∈ l, x.f1.size ≤ 1048576) : Ev (fun k => majordomolaw03_LayoutEntries.f k l) true := by
  have hs' : ∀ x ∈ l, x.f1.size ≤ 4611686018427387904 := fun x hx => by have := hs x hx; omega
  obtain ⟨p, g, hp, -⟩ := put_ents l
  have hr : majordomoref03_PutEntries.f l = some (p, g) := (put_eq hs').trans hp
  have h0 : Ev (fun k => majordomolaw03_LayoutEntries.j0 k l l p g false) true := by
    refine Ev.step (fun k => ?_) (ev_loop l p g hz hs' hp l.length 0 (by omega))
    simp only [majordomolaw03_LayoutEntries.j0]
    rfl
  unfold majordomolaw03_LayoutEntries.f
  refine Ev.bind ev_shown (Ev.congr (fun k => ?_) h0)
  simp only [Option.bind_some, List.length_nil, List.nil_append]
  rw [if_pos (by omega), hp, Option.bind_some, hr, Option.bind_some]
  simp only [if_true, bne_self_eq_false]
end Go.Proofs.YtgppfalpncbmbaaDoor.PE
