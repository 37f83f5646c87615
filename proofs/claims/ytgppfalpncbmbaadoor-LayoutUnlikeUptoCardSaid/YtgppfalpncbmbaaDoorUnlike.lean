/- LayoutUnlike's plain law: unlike nodes have unlike bytes, and so have unlike rows of entries. -/
import Derived.Test.YtgppfalpncbmbaaDoorUnlSpec
namespace Go.Proofs.YtgppfalpncbmbaaDoor.PU
open Go.RowKit Go.Proofs.YtgppfalpncbmbaaDoorW.PrintWords Go.Proofs.YtgppfalpncbmbaaDoorW.PrintLast Go.Proofs.YtgppfalpncbmbaaDoorW.PrintMore

/-! ## Bytes as a text. -/
def Byt (l : List Int) : Prop := ∀ x ∈ l, 0 ≤ x ∧ x < 256
theorem byt_append {a b : List Int} (ha : Byt a) (hb : Byt b) : Byt (a ++ b) := fun x hx => (List.mem_append.1 hx).elim (ha x) (hb x)
theorem byt_zeros (n : Nat) : Byt (List.replicate n 0) := fun x hx => by rw [List.eq_of_mem_replicate hx]; omega
theorem str_inj : ∀ {a b : List Int}, Byt a → Byt b → (strOfNums a).toList = (strOfNums b).toList → a = b := by
  have key : ∀ (a b : List Int), Byt a → Byt b → a.map (fun z => UInt8.ofNat z.toNat) = b.map (fun z => UInt8.ofNat z.toNat) → a = b := by
    intro a
    induction a with
    | nil => intro b _ _ h; cases b with
      | nil => rfl
      | cons y b => simp at h
    | cons x a ih =>
      intro b ha hb h
      cases b with
      | nil => simp at h
      | cons y b =>
        simp only [List.map_cons, List.cons.injEq] at h
        have hx := ha x (by simp)
        have hy := hb y (by simp)
        have h1 : x = y := by
          have h2 := congrArg UInt8.toNat h.1
          simp only [UInt8.toNat_ofNat'] at h2
          omega
        rw [h1, ih b (fun z hz => ha z (by simp [hz])) (fun z hz => hb z (by simp [hz])) h.2]
  intro a b ha hb h
  rw [Lib.toList_data, Lib.toList_data] at h
  rw [strOfNums_data, strOfNums_data] at h
  exact key a b ha hb h
theorem str_eq {a b : List Int} (ha : Byt a) (hb : Byt b) : ((strOfNums a).toList == (strOfNums b).toList) = decide (a = b) := by
  by_cases h : a = b
  · rw [h, decide_eq_true rfl]; exact beq_self_eq_true _
  · rw [decide_eq_false h]
    have : (strOfNums a).toList ≠ (strOfNums b).toList := fun e => h (str_inj ha hb e)
    simpa using this
theorem byt_be (v : Int) : Byt (be v) := by
  intro x hx
  unfold be at hx
  simp only [List.mem_cons, List.not_mem_nil, or_false] at hx
  rcases hx with rfl | rfl <;> omega
theorem byt_bes (l : List Int) : Byt (bes l) := by
  intro x hx
  unfold bes at hx
  obtain ⟨v, _, hv⟩ := List.mem_flatMap.1 hx
  exact byt_be v x hv
theorem byt_node (k m s : Int) (l : List Int) (mo : Int) : Byt (nodeBytes k m s l mo) := by
  rw [head_bytes]
  refine byt_append (byt_append (byt_append ?_ (byt_bes _)) (byt_bes _)) (byt_zeros _)
  intro x hx
  simp only [List.mem_cons, List.not_mem_nil, or_false] at hx
  subst hx
  omega
theorem be_inj {a b : Int} (ha : 0 ≤ a ∧ a < 65536) (hb : 0 ≤ b ∧ b < 65536) (h : be a = be b) : a = b := by
  unfold be at h
  simp only [List.cons.injEq, and_true] at h
  omega
theorem bes_inj : ∀ {a b : List Int}, a.length = b.length → (∀ x ∈ a, 0 ≤ x ∧ x < 65536) → (∀ x ∈ b, 0 ≤ x ∧ x < 65536) → bes a = bes b → a = b := by
  intro a
  induction a with
  | nil => intro b hl _ _ _; exact (List.length_eq_zero_iff.1 hl.symm).symm
  | cons x a ih =>
    intro b hl ha hb h
    cases b with
    | nil => simp at hl
    | cons y b =>
      rw [bes_cons, bes_cons] at h
      obtain ⟨h1, h2⟩ := List.append_inj h rfl
      rw [be_inj (ha x (by simp)) (hb y (by simp)) h1, ih (by simpa using hl) (fun z hz => ha z (by simp [hz])) (fun z hz => hb z (by simp [hz])) h2]
theorem node_inj {k m s mo k' m' s' mo' : Int} {l l' : List Int} (o : Ok k m s l mo) (o' : Ok k' m' s' l' mo') (h : nodeBytes k m s l mo = nodeBytes k' m' s' l' mo')
    (hm : (if blocksF k s > 6 then moreBytes l else []) = (if blocksF k' s' > 6 then moreBytes l' else [])) : k = k' ∧ m = m' ∧ s = s' ∧ l = l' ∧ mo = mo' := by
  have hk := o.kind
  have hk' := o'.kind
  have hmo := o.mo
  have hmo' := o'.mo
  have hm0 := o.m0
  have hm1 := o.m1
  have hm0' := o'.m0
  have hm1' := o'.m1
  have hl := o.len
  have hl' := o'.len
  have ho := o.n
  have ho' := o'.n
  rw [head_bytes, head_bytes, List.append_assoc, List.append_assoc, List.append_assoc, List.append_assoc] at h
  obtain ⟨h1, h2⟩ := List.append_inj h rfl
  obtain ⟨h3, h4⟩ := List.append_inj h2 rfl
  have ek : k = k' := by simp only [List.cons.injEq, and_true] at h1; omega
  have e3 := bes_inj (a := [m, s, mo]) (b := [m', s', mo']) rfl (by intro x hx; simp only [List.mem_cons, List.not_mem_nil, or_false] at hx; rcases hx with rfl | rfl | rfl <;> omega) (by intro x hx; simp only [List.mem_cons, List.not_mem_nil, or_false] at hx; rcases hx with rfl | rfl | rfl <;> omega) h3
  simp only [List.cons.injEq, and_true] at e3
  obtain ⟨rfl, rfl, rfl⟩ := e3
  subst ek
  have hlen : l.length = l'.length := by omega
  have hb : ∀ (l : List Int), (∀ b ∈ l, 1 ≤ b ∧ b < 4096) → ∀ x ∈ l, 0 ≤ x ∧ x < 65536 := fun l h x hx => by have := h x hx; omega
  obtain ⟨h5, -⟩ := List.append_inj h4 (by rw [bes_len, bes_len, List.length_take, List.length_take, hlen])
  have e6 := bes_inj (by rw [List.length_take, List.length_take, hlen]) (fun x hx => hb l o.bl x (List.mem_of_mem_take hx)) (fun x hx => hb l' o'.bl x (List.mem_of_mem_take hx)) h5
  have e7 : l.drop 6 = l'.drop 6 := by
    by_cases h6 : 6 < l.length
    · rw [if_pos (by omega), if_pos (by omega), more_bytes l hl, more_bytes l' hl'] at hm
      obtain ⟨h8, -⟩ := List.append_inj hm (by rw [bes_len, bes_len, List.length_drop, List.length_drop, hlen])
      exact bes_inj (by rw [List.length_drop, List.length_drop, hlen]) (fun x hx => hb l o.bl x (List.mem_of_mem_drop hx)) (fun x hx => hb l' o'.bl x (List.mem_of_mem_drop hx)) h8
    · rw [List.drop_eq_nil_of_le (by omega), List.drop_eq_nil_of_le (by omega)]
  refine ⟨rfl, rfl, rfl, ?_, rfl⟩
  rw [← List.take_append_drop 6 l, e6, e7, List.take_append_drop]

/-! ## Whether two rows of numbers, two nodes, are the same. -/
theorem ev_ints (a b : List Int) (hz : a.length ≤ 1048576) : Ev (fun k => majordomolaw03_ints.f k a b) (decide (a = b)) := by
  unfold majordomolaw03_ints.f
  by_cases hl : a.length = b.length
  · have hgo : ∀ (d i : Nat), i + d = a.length → a.take i = b.take i → Ev (fun k => majordomolaw03_ints.l0 k a b (i : Int)) (decide (a = b)) := by
      intro d
      induction d with
      | zero =>
        intro i hi ht
        rw [List.take_of_length_le (by omega), List.take_of_length_le (by omega)] at ht
        refine Ev.step (f := fun _ => some (decide (a = b))) (fun k => ?_) (Ev.now _)
        simp only [majordomolaw03_ints.l0]
        rw [if_neg (by omega), decide_eq_true ht]
      | succ d ih =>
        intro i hi ht
        have ha : i < a.length := by omega
        have hb : i < b.length := by omega
        by_cases he : a[i] = b[i]
        · have ht2 : a.take (i + 1) = b.take (i + 1) := by rw [List.take_add_one, List.take_add_one, ht, List.getElem?_eq_getElem ha, List.getElem?_eq_getElem hb, he]
          refine Ev.step (fun k => ?_) (ih (i + 1) (by omega) ht2)
          simp only [majordomolaw03_ints.l0]
          rw [if_pos (by omega), if_pos (by omega), if_pos (by omega), rd_get a i ha, rd_get b i hb, if_pos he, wv ((i : Int) + 1) ((i + 1 : Nat) : Int) (by omega) (by omega) (by omega)]
        · have hne : a ≠ b := fun e => he (by subst e; rfl)
          refine Ev.step (f := fun _ => some (decide (a = b))) (fun k => ?_) (Ev.now _)
          simp only [majordomolaw03_ints.l0]
          rw [if_pos (by omega), if_pos (by omega), if_pos (by omega), rd_get a i ha, rd_get b i hb, if_neg he, decide_eq_false hne]
    refine Ev.congr (fun k => ?_) (hgo a.length 0 (Nat.zero_add _) rfl)
    rw [if_pos (by omega)]
    rfl
  · have hne : a ≠ b := fun e => hl (by rw [e])
    rw [decide_eq_false hne]
    exact Ev.congr (fun k => by rw [if_neg (by omega)]) (Ev.now _)
theorem ev_same (k m s mo k' m' s' mo' : Int) (l l' : List Int) (hz : l.length ≤ 1048576) : Ev (fun n => majordomolaw03_same.f n k m s l mo k' m' s' l' mo') (decide (l = l' ∧ k = k' ∧ m = m' ∧ s = s' ∧ mo = mo')) := by
  unfold majordomolaw03_same.f
  refine Ev.bind (ev_ints l l' hz) (Ev.congr (f := fun _ => some (decide (l = l' ∧ k = k' ∧ m = m' ∧ s = s' ∧ mo = mo'))) (fun n => ?_) (Ev.now _))
  by_cases h1 : l = l'
  · rw [decide_eq_true h1, if_pos rfl]
    by_cases h2 : k = k'
    · rw [if_pos h2]
      by_cases h3 : m = m'
      · rw [if_pos h3]
        by_cases h4 : s = s'
        · rw [if_pos h4]
          by_cases h5 : mo = mo'
          · rw [decide_eq_true ⟨h1, h2, h3, h4, h5⟩, h5, beq_self_eq_true]
          · rw [decide_eq_false (fun h => h5 h.2.2.2.2), show (mo == mo') = false by simpa using h5]
        · rw [if_neg h4, decide_eq_false (fun h => h4 h.2.2.2.1)]
      · rw [if_neg h3, decide_eq_false (fun h => h3 h.2.2.1)]
    · rw [if_neg h2, decide_eq_false (fun h => h2 h.2.1)]
  · rw [decide_eq_false h1, if_neg (by decide), decide_eq_false (fun h => h1 h.1)]

/-! ## Entries. -/
def eqS (x y : S47) : Bool := x.f0 == y.f0 && (x.f1.toList == y.f1.toList)
theorem eqS_iff {x y : S47} : eqS x y = true ↔ x = y := by
  unfold eqS
  rw [Bool.and_eq_true, beq_iff_eq, beq_iff_eq]
  constructor
  · rintro ⟨h1, h2⟩
    have h3 : x.f1 = y.f1 := by
      apply Go.WideShapes.bytes_inj
      rw [Lib.toList_data, Lib.toList_data] at h2
      exact h2
    cases x; cases y
    simp only at h1 h3
    rw [h1, h3]
  · rintro rfl
    exact ⟨rfl, rfl⟩
theorem byt_bytesOf (s : ByteArray) : Byt (bytesOf s) := by
  intro x hx
  unfold bytesOf at hx
  obtain ⟨b, _, rfl⟩ := List.mem_map.1 hx
  have := b.toNat_lt
  omega
theorem byt_ent (x : S47) : Byt (entB x) := by
  unfold entB
  refine byt_append (byt_append ?_ (byt_bytesOf _)) (byt_zeros _)
  intro v hv
  simp only [List.mem_cons, List.not_mem_nil, or_false] at hv
  rcases hv with rfl | rfl <;> omega
theorem byt_ents (l : List S47) : Byt (l.flatMap entB) := by
  intro x hx
  obtain ⟨e, _, hv⟩ := List.mem_flatMap.1 hx
  exact byt_ent e x hv
theorem bytesOf_inj {a b : ByteArray} (h : bytesOf a = bytesOf b) : a = b := by
  apply Go.WideShapes.bytes_inj
  unfold bytesOf at h
  have key : ∀ (x y : List UInt8), x.map (fun b => (b.toNat : Int)) = y.map (fun b => (b.toNat : Int)) → x = y := by
    intro x
    induction x with
    | nil => intro y h; cases y with
      | nil => rfl
      | cons _ _ => simp at h
    | cons u x ih =>
      intro y h
      cases y with
      | nil => simp at h
      | cons v y =>
        simp only [List.map_cons, List.cons.injEq] at h
        rw [ih y h.2, show u = v from UInt8.toNat_inj.1 (by omega)]
  exact key _ _ h
def Good (x : S47) : Prop := x.f1.size ≤ 28 ∧ 1 ≤ x.f0 ∧ x.f0 < 64
theorem ent_inj {x y : S47} (hx : Good x) (hy : Good y) (h : entB x = entB y) : x = y := by
  obtain ⟨h1, h2, h3⟩ := hx
  obtain ⟨h4, h5, h6⟩ := hy
  unfold entB at h
  simp only [List.cons_append, List.nil_append, List.cons.injEq] at h
  obtain ⟨e1, e2, e3⟩ := h
  have es : x.f1.size = y.f1.size := by omega
  obtain ⟨e4, -⟩ := List.append_inj e3 (by rw [bytesOf_length, bytesOf_length, es])
  have e5 := bytesOf_inj e4
  have e6 : x.f0 = y.f0 := by omega
  cases x; cases y
  simp only at e5 e6
  rw [e5, e6]
theorem ents_inj : ∀ {a b : List S47}, (∀ x ∈ a, Good x) → (∀ x ∈ b, Good x) → a.flatMap entB = b.flatMap entB → a = b := by
  intro a
  induction a with
  | nil =>
    intro b _ hb h
    cases b with
    | nil => rfl
    | cons y b =>
      have := congrArg List.length h
      rw [List.flatMap_cons, List.length_append, entB_len (by have := (hb y (by simp)).1; omega)] at this
      simp at this
      try omega
  | cons x a ih =>
    intro b ha hb h
    have hx := ha x (by simp)
    cases b with
    | nil =>
      have := congrArg List.length h
      rw [List.flatMap_cons, List.length_append, entB_len (by have := hx.1; omega)] at this
      simp at this
      try omega
    | cons y b =>
      have hy := hb y (by simp)
      rw [List.flatMap_cons, List.flatMap_cons] at h
      obtain ⟨h1, h2⟩ := List.append_inj h (by rw [entB_len (by have := hx.1; omega), entB_len (by have := hy.1; omega)])
      rw [ent_inj hx hy h1, ih (fun z hz => ha z (by simp [hz])) (fun z hz => hb z (by simp [hz])) h2]
theorem good_of {l : List S47} (h : (List.range l.length).all (entOk l) = true) : ∀ x ∈ l, Good x := by
  intro x hx
  obtain ⟨j, hj, rfl⟩ := List.getElem_of_mem hx
  have := List.all_eq_true.1 h j (by rw [List.mem_range]; exact hj)
  have h2 := ok_name this
  rw [rd_get47 hj] at h2
  exact h2
/-- What PutEntries answers. -/
theorem put_ents (l : List S47) : ∃ p g, layout_PutEntries.f l = some (p, g) ∧ (g = 0 → p = l.flatMap entB ∧ (∀ x ∈ l, Good x) ∧ l.length ≤ 16) := by
  unfold layout_PutEntries.f
  by_cases h1 : l.length > 16
  · rw [if_pos h1]; exact ⟨_, _, rfl, fun h => by cases h⟩
  · rw [if_neg h1]
    by_cases h2 : (List.range l.length).all (entOk l) = true
    · rw [if_pos h2]; exact ⟨_, _, rfl, fun _ => ⟨rfl, good_of h2, by omega⟩⟩
    · rw [if_neg h2]; exact ⟨_, _, rfl, fun h => by cases h⟩
def endR (p : List Int) (g : Int) (q : List Int) (h : Int) (e : Bool) : Bool := if g = 0 then if h = 0 then ((strOfNums p).toList == (strOfNums q).toList) == e else true else true
theorem ev_unl_l0 (p q : List Int) (g h : Int) (a b : List S47) (hz : a.length ≤ 1048576) (hr : ∀ e : Bool, (e = true ↔ a = b) → endR p g q h e = true) : ∀ (d i : Nat) (e : Bool), i + d = a.length → (e = true ↔ a.length = b.length ∧ a.take i = b.take i) →
    Ev (fun k => majordomolaw03_LayoutUnlike.l0 k p g q h e (i : Int) a b) true := by
  have hend : ∀ (e : Bool), (e = true ↔ a = b) → (if g = 0 then (if h = 0 then (some (((strOfNums p).toList == (strOfNums q).toList) == e)) else (some true)) else (some true)) = some true := by
    intro e he
    have := hr e he
    unfold endR at this
    by_cases hg : g = 0
    · rw [if_pos hg] at this ⊢
      by_cases hh : h = 0
      · rw [if_pos hh] at this ⊢
        rw [this]
      · rw [if_neg hh]
    · rw [if_neg hg]
  intro d
  induction d with
  | zero =>
    intro i e hi he
    have h2 : e = true ↔ a = b := by
      rw [he]
      constructor
      · rintro ⟨h1, h2⟩
        rwa [List.take_of_length_le (by omega), List.take_of_length_le (by omega)] at h2
      · rintro rfl; exact ⟨rfl, rfl⟩
    refine Ev.step (f := fun _ => some true) (fun k => ?_) (Ev.now _)
    simp only [majordomolaw03_LayoutUnlike.l0]
    rw [if_neg (by omega), hend e h2]
  | succ d ih =>
    intro i e hi he
    have ha : i < a.length := by omega
    cases e with
    | false =>
      have hne : a ≠ b := by
        rintro rfl
        have := he.2 ⟨rfl, rfl⟩
        cases this
      refine Ev.step (f := fun _ => some true) (fun k => ?_) (Ev.now _)
      simp only [majordomolaw03_LayoutUnlike.l0]
      rw [if_pos (by omega), if_neg (by decide), hend false ⟨fun h => (by cases h), fun h => absurd h hne⟩]
    | true =>
      obtain ⟨hl, ht⟩ := he.1 rfl
      have hb : i < b.length := by omega
      have hx : (((rd_T47 a (i : Int)).f0) == ((rd_T47 b (i : Int)).f0) && ((((rd_T47 a (i : Int)).f1).toList) == (((rd_T47 b (i : Int)).f1).toList))) = eqS a[i] b[i] := by rw [rd_get47 ha, rd_get47 hb]; rfl
      refine Ev.step (fun k => ?_) (ih (i + 1) (eqS a[i] b[i]) (by omega) ?_)
      · simp only [majordomolaw03_LayoutUnlike.l0]
        rw [if_pos (by omega), if_pos trivial, if_pos (by omega), if_pos (by omega), hx, wv ((i : Int) + 1) ((i + 1 : Nat) : Int) (by omega) (by omega) (by omega)]
      · rw [eqS_iff, List.take_add_one, List.take_add_one, ht, List.getElem?_eq_getElem ha, List.getElem?_eq_getElem hb]
        constructor
        · intro h; exact ⟨hl, by rw [h]⟩
        · rintro ⟨-, h⟩
          have := List.append_cancel_left h
          simpa using this
theorem ev_LayoutUnlike (k m s mo k' m' s' mo' : Int) (l l' : List Int) (a b : List S47) (hl : l.length ≤ 1048576) (hl' : l'.length ≤ 1048576) (hz : a.length ≤ 1048576) : Ev (fun n => majordomolaw03_LayoutUnlike.f n k m s l mo k' m' s' l' mo' a b) true := by
  obtain ⟨p, g, hp, hpg⟩ := put_ents a
  obtain ⟨q, h, hq, hqh⟩ := put_ents b
  have hr : ∀ e : Bool, (e = true ↔ a = b) → endR p g q h e = true := by
    intro e he
    unfold endR
    by_cases hg : g = 0
    · rw [if_pos hg]
      by_cases hh : h = 0
      · rw [if_pos hh]
        obtain ⟨rfl, ga, -⟩ := hpg hg
        obtain ⟨rfl, gb, -⟩ := hqh hh
        rw [str_eq (byt_ents a) (byt_ents b)]
        by_cases hab : a = b
        · rw [he.2 hab, decide_eq_true (by rw [hab])]; rfl
        · rw [show e = false by cases e with | false => rfl | true => exact absurd (he.1 rfl) hab, decide_eq_false (fun e => hab (ents_inj ga gb e))]; rfl
      · rw [if_neg hh]
    · rw [if_neg hg]
  have hj0 : Ev (fun n => majordomolaw03_LayoutUnlike.j0 n false a b) true := by
    have hgo := ev_unl_l0 p q g h a b hz hr a.length 0 ((a.length : Int) == (b.length : Int)) (Nat.zero_add _) (by rw [beq_iff_eq]; exact ⟨fun h => ⟨by omega, rfl⟩, fun h => by have := h.1; omega⟩)
    refine Ev.step (fun n => ?_) hgo
    simp only [majordomolaw03_LayoutUnlike.j0]
    rw [if_neg (by decide), hp, Option.bind_some, hq, Option.bind_some]
    rfl
  unfold majordomolaw03_LayoutUnlike.f
  refine Ev.bind ev_shown ?_
  rw [put_f k m s l mo (by omega), put_f k' m' s' l' mo' (by omega)]
  simp only [Option.bind_some, if_true]
  refine Ev.bind (ev_same k m s mo k' m' s' mo' l l' hl) (Ev.congr (fun n => ?_) hj0)
  unfold putF
  cases h1 : nodeOk k m s l mo with
  | false => simp
  | true =>
    cases h2 : nodeOk k' m' s' l' mo' with
    | false => simp
    | true =>
      have o := ok_iff.1 h1
      have o' := ok_iff.1 h2
      simp only [if_true]
      have bm : ∀ (k s : Int) (l : List Int), l.length ≤ 38 → Byt (if blocksF k s > 6 then moreBytes l else []) := by
        intro k s l hl
        split
        · rw [more_bytes l hl]; exact byt_append (byt_bes _) (byt_zeros _)
        · intro x hx; cases hx
      have e1 := str_eq (byt_node k m s l mo) (byt_node k' m' s' l' mo')
      have e2 := str_eq (bm k s l o.len) (bm k' s' l' o'.len)
      rw [e2]
      by_cases hn : nodeBytes k m s l mo = nodeBytes k' m' s' l' mo'
      · rw [if_pos (by rw [hn])]
        by_cases hm : (if blocksF k s > 6 then moreBytes l else []) = (if blocksF k' s' > 6 then moreBytes l' else [])
        · obtain ⟨r1, r2, r3, r4, r5⟩ := node_inj o o' hn hm
          rw [decide_eq_true hm, decide_eq_true ⟨r4, r1, r2, r3, r5⟩]
          rfl
        · rw [decide_eq_false hm, decide_eq_false (fun h => hm (by obtain ⟨rfl, rfl, rfl, rfl, rfl⟩ := h; rfl))]
          rfl
      · rw [decide_eq_false hn] at e1
        rw [if_neg (by simpa using e1), decide_eq_false (fun h => hn (by obtain ⟨rfl, rfl, rfl, rfl, rfl⟩ := h; rfl))]
        rfl
theorem ev_LayoutUnlikeR (k m s mo : Int) (l : List Int) (k' m' s' mo' : Int) (l' : List Int) (a b : List S47) (hl : l.length ≤ 1048576) (hl' : l'.length ≤ 1048576) (hz : a.length ≤ 1048576) : Ev (fun n => majordomolaw03_LayoutUnlike.f n k m s l mo k' m' s' l' mo' a b) true :=
  ev_LayoutUnlike k m s mo k' m' s' mo' l l' a b hl hl' hz
end Go.Proofs.YtgppfalpncbmbaaDoor.PU
