/- A region that draws its order, whose operations only make memory (or touch what no other one looks at): one walk in the order of the text serves every order. -/
import Derived.Test.YtiobdnnijbfdhaaDoorBase
import Derived.Orders
namespace Go.Proofs.YtiobdnnijbfdhaaDoor
open Go.RowKit

/-- What an operation gives at a frame and a world. -/
def gives (P : Program) (o : Oper) (a : Act) (w : World) (R : Value → World → Prop) : Prop :=
  match (execOp a.eval o).run P w with
  | .ok (.value v) w' => R v w'
  | .ok .skip w' => R undef w'
  | .ok (.enter f args) w' => Calls P f args w' fun e w'' => ∃ v, e = .returned v ∧ R v w''
  | _ => False

theorem gives_wp {P : Program} {o : Oper} {a : Act} {w : World} {R : Value → World → Prop} {next : Act → World → Prop} {Q : Exit → Act → World → Prop}
    (h : gives P o a w R) (hn : ∀ v w', R v w' → next (a.put o.dst v) w') : o.wp P a w next Q := by
  unfold gives at h
  unfold Oper.wp
  generalize (execOp a.eval o).run P w = r at *
  cases r with
  | ok n w' =>
    cases n <;> simp only [Oper.upon] at h ⊢ <;> first
      | exact hn _ _ h
      | exact h.mono (fun e w'' ⟨v, he, hr⟩ => by subst he; exact hn _ _ hr)
  | halt x w' => exact h.elim

/-- An operation that is wanted yields v and leaves the world; one that is not is passed over. -/
def Runs (P : Program) (ops : Array Oper) (o : Oper) (a : Act) (v : Value) (w : World) : Prop :=
  if Region.wanted o (yielded ops a.tmps) then (execOp a.eval o).run P w = .ok (.value v) w else v = undef

/-- An operation that is wanted, and gives what R says. -/
def Gives (P : Program) (ops : Array Oper) (o : Oper) (a : Act) (w : World) (R : Value → World → Prop) : Prop :=
  if Region.wanted o (yielded ops a.tmps) then gives P o a w R else R undef w

def upd (F : Nat → World → Prop) (i : Nat) (p : World → Prop) : Nat → World → Prop := fun j => if j = i then p else F j

section
variable (P : Program) (ops : Array Oper) (rel : World → World → Prop) (dep : Nat → Nat → Bool) (PV : Nat → Option (Value → World → Prop)) (Q : Exit → Act → World → Prop)

/-- The walk in the order of the text. -/
def Grow : List (Oper × Nat) → Act → World → (Nat → World → Prop) → Prop
  | [], a, w, F => ∀ w', rel w w' → (∀ j, F j w') → Q .normal a w'
  | (o, i) :: R, a, w, F =>
    match PV i with
    | none => ∃ v, (∀ w', rel w w' → (∀ j, dep j i = true → F j w') → Runs P ops o a v w') ∧ Grow R (a.put o.dst v) w F
    | some V => (∀ w', rel w w' → (∀ j, dep j i = true → F j w') → Gives P ops o a w' (fun v w'' => rel w' w'' ∧ V v w'')) ∧ ∀ v, Grow R (a.put o.dst v) w (upd F i (V v))

/-- No operation looks at what one writes that it does not wait for. -/
def growOk : Bool :=
  Region.noSelect ops &&
  (List.range ops.size).all fun i => (List.range ops.size).all fun j =>
    match ops[i]?, ops[j]? with
    | some oi, some oj =>
      (!dep j i || (decide (j < i) && oi.after.toList.any fun e => Region.binds .any e && (e.on == j || dep j e.on))) &&
      (oi.after.toList.all fun e => !Region.binds .any e || decide (e.on < i)) &&
      (match oj.dst with | some d => !(oi.looksAt ops).contains d || dep j i | none => true) &&
      (i == j || oi.dst != oj.dst || oi.dst == none)
    | _, _ => false
end

section
variable {P : Program} {ops : Array Oper} {rel : World → World → Prop} {dep : Nat → Nat → Bool} {PV : Nat → Option (Value → World → Prop)} {Q : Exit → Act → World → Prop}

theorem Grow.later (ht : ∀ a b c, rel a b → rel b c → rel a c) : ∀ (R : List (Oper × Nat)) (a : Act) (w w1 : World) (F : Nat → World → Prop), rel w w1 → Grow P ops rel dep PV Q R a w F → Grow P ops rel dep PV Q R a w1 F
  | [], a, w, w1, F, hr, h => fun w' h1 hf => h w' (ht _ _ _ hr h1) hf
  | (o, i) :: R, a, w, w1, F, hr, h => by
    unfold Grow at h ⊢
    cases hp : PV i with
    | none =>
      simp only [hp] at h ⊢
      obtain ⟨v, h1, h2⟩ := h
      exact ⟨v, fun w' hw hf => h1 w' (ht _ _ _ hr hw) hf, Grow.later ht R _ _ _ _ hr h2⟩
    | some V =>
      simp only [hp] at h ⊢
      obtain ⟨h1, h2⟩ := h
      exact ⟨fun w' hw hf => h1 w' (ht _ _ _ hr hw) hf, fun v => Grow.later ht R _ _ _ _ hr (h2 v)⟩

theorem Runs.congr {o : Oper} {a a' : Act} {v : Value} {w : World} (h : Runs P ops o a v w) (he : execOp a'.eval o = execOp a.eval o) (hw : Region.wanted o (yielded ops a'.tmps) = Region.wanted o (yielded ops a.tmps)) : Runs P ops o a' v w := by
  unfold Runs at *
  rw [he, hw]
  exact h
theorem Gives.congr {o : Oper} {a a' : Act} {R : Value → World → Prop} {w : World} (h : Gives P ops o a w R) (he : execOp a'.eval o = execOp a.eval o) (hw : Region.wanted o (yielded ops a'.tmps) = Region.wanted o (yielded ops a.tmps)) : Gives P ops o a' w R := by
  unfold Gives gives at *
  rw [he, hw]
  exact h
theorem Runs.one {o : Oper} {a : Act} {v u : Value} {w : World} (h : Runs P ops o a v w) (k : Runs P ops o a u w) : u = v := by
  unfold Runs at *
  split at h
  · rename_i hw
    rw [if_pos hw] at k
    rw [h] at k
    cases k
    rfl
  · rename_i hw
    rw [if_neg hw] at k
    rw [h, k]

theorem upd_comm (F : Nat → World → Prop) (i j : Nat) (p q : World → Prop) (h : i ≠ j) : upd (upd F i p) j q = upd (upd F j q) i p := by
  funext k
  unfold upd
  by_cases h1 : k = j
  · subst h1; simp [Ne.symm h]
  · simp [h1]

/-- The two operations look at nothing that the other writes, and write apart. -/
structure Apart (ops : Array Oper) (x y : Oper) : Prop where
  one : ∀ d, x.dst = some d → d ∉ y.looksAt ops
  two : ∀ d, y.dst = some d → d ∉ x.looksAt ops
  dst : ∀ d, x.dst = some d → y.dst ≠ some d

theorem pull_det (hs : ∀ (i : Nat) (o : Oper) cs b, ops[i]? = some o → o.op ≠ .select cs b) (hrr : ∀ w, rel w w) (k : Oper) (ik : Nat) (hk : ops[ik]? = some k) (hp : PV ik = none) (w : World) (R2 : List (Oper × Nat)) :
    ∀ (R1 : List (Oper × Nat)) (a : Act) (F : Nat → World → Prop), (∀ x ∈ R1, ops[x.2]? = some x.1 ∧ dep x.2 ik = false ∧ Apart ops x.1 k) → (∀ j, dep j ik = true → F j w) →
      Grow P ops rel dep PV Q (R1 ++ (k, ik) :: R2) a w F → ∃ v, Runs P ops k a v w ∧ Grow P ops rel dep PV Q (R1 ++ R2) (a.put k.dst v) w F
  | [], a, F, _, hF, h => by
    simp only [List.nil_append] at h ⊢
    unfold Grow at h
    simp only [hp] at h
    obtain ⟨v, h1, h2⟩ := h
    exact ⟨v, h1 w (hrr w) hF, h2⟩
  | (r, ir) :: R1, a, F, hR, hF, h => by
    obtain ⟨hro, hdep, hap⟩ := hR (r, ir) (by simp)
    have hR' : ∀ x ∈ R1, ops[x.2]? = some x.1 ∧ dep x.2 ik = false ∧ Apart ops x.1 k := fun x hx => hR x (by simp [hx])
    have ek : ∀ v, execOp (a.put r.dst v).eval k = execOp a.eval k := fun v => execOp_put (ops := ops) k (fun cs b => hs ik k cs b hk) a r.dst v (fun d hd => hap.one d hd)
    have wk : ∀ v, Region.wanted k (yielded ops (a.put r.dst v).tmps) = Region.wanted k (yielded ops a.tmps) := fun v => wanted_put (ops := ops) k a r.dst v (fun d hd => hap.one d hd)
    have er : ∀ v, execOp (a.put k.dst v).eval r = execOp a.eval r := fun v => execOp_put (ops := ops) r (fun cs b => hs ir r cs b hro) a k.dst v (fun d hd => hap.two d hd)
    have wr : ∀ v, Region.wanted r (yielded ops (a.put k.dst v).tmps) = Region.wanted r (yielded ops a.tmps) := fun v => wanted_put (ops := ops) r a k.dst v (fun d hd => hap.two d hd)
    simp only [List.cons_append] at h ⊢
    unfold Grow at h
    cases hpr : PV ir with
    | none =>
      simp only [hpr] at h
      obtain ⟨vr, h1, h2⟩ := h
      obtain ⟨vk, h3, h4⟩ := pull_det hs hrr k ik hk hp w R2 R1 _ F hR' hF h2
      refine ⟨vk, h3.congr (ek vr).symm (wk vr).symm, ?_⟩
      unfold Grow
      simp only [hpr]
      refine ⟨vr, fun w' hw hf => (h1 w' hw hf).congr (er vk) (wr vk), ?_⟩
      rw [← Act.put_comm a vr vk hap.dst]
      exact h4
    | some V =>
      simp only [hpr] at h
      obtain ⟨h1, h2⟩ := h
      have hne : ∀ j, dep j ik = true → j ≠ ir := fun j hj e => by subst e; rw [hdep] at hj; cases hj
      have hF' : ∀ v j, dep j ik = true → upd F ir (V v) j w := fun v j hj => by
        unfold upd
        rw [if_neg (hne j hj)]
        exact hF j hj
      have ih := fun v => pull_det hs hrr k ik hk hp w R2 R1 _ (upd F ir (V v)) hR' (hF' v) (h2 v)
      obtain ⟨vk, h3, -⟩ := ih undef
      have h3' : Runs P ops k a vk w := h3.congr (ek undef).symm (wk undef).symm
      refine ⟨vk, h3', ?_⟩
      unfold Grow
      simp only [hpr]
      refine ⟨fun w' hw hf => (h1 w' hw hf).congr (er vk) (wr vk), fun v => ?_⟩
      obtain ⟨vk', h5, h6⟩ := ih v
      have : vk' = vk := h3'.one (h5.congr (ek v).symm (wk v).symm)
      subst this
      rw [← Act.put_comm a v vk' hap.dst]
      exact h6

theorem pull_pred (hs : ∀ (i : Nat) (o : Oper) cs b, ops[i]? = some o → o.op ≠ .select cs b) (hrr : ∀ w, rel w w) (k : Oper) (ik : Nat) (hk : ops[ik]? = some k) (V : Value → World → Prop) (hp : PV ik = some V) (w : World) (R2 : List (Oper × Nat)) :
    ∀ (R1 : List (Oper × Nat)) (a : Act) (F : Nat → World → Prop), (∀ x ∈ R1, ops[x.2]? = some x.1 ∧ dep x.2 ik = false ∧ dep ik x.2 = false ∧ x.2 ≠ ik ∧ Apart ops x.1 k) → (∀ j, dep j ik = true → F j w) →
      Grow P ops rel dep PV Q (R1 ++ (k, ik) :: R2) a w F → Gives P ops k a w (fun v w'' => rel w w'' ∧ V v w'') ∧ ∀ v, Grow P ops rel dep PV Q (R1 ++ R2) (a.put k.dst v) w (upd F ik (V v))
  | [], a, F, _, hF, h => by
    simp only [List.nil_append] at h ⊢
    unfold Grow at h
    simp only [hp] at h
    obtain ⟨h1, h2⟩ := h
    exact ⟨h1 w (hrr w) hF, h2⟩
  | (r, ir) :: R1, a, F, hR, hF, h => by
    obtain ⟨hro, hdep, hdep', hnek, hap⟩ := hR (r, ir) (by simp)
    have hR' : ∀ x ∈ R1, ops[x.2]? = some x.1 ∧ dep x.2 ik = false ∧ dep ik x.2 = false ∧ x.2 ≠ ik ∧ Apart ops x.1 k := fun x hx => hR x (by simp [hx])
    have ek : ∀ v, execOp (a.put r.dst v).eval k = execOp a.eval k := fun v => execOp_put (ops := ops) k (fun cs b => hs ik k cs b hk) a r.dst v (fun d hd => hap.one d hd)
    have wk : ∀ v, Region.wanted k (yielded ops (a.put r.dst v).tmps) = Region.wanted k (yielded ops a.tmps) := fun v => wanted_put (ops := ops) k a r.dst v (fun d hd => hap.one d hd)
    have er : ∀ v, execOp (a.put k.dst v).eval r = execOp a.eval r := fun v => execOp_put (ops := ops) r (fun cs b => hs ir r cs b hro) a k.dst v (fun d hd => hap.two d hd)
    have wr : ∀ v, Region.wanted r (yielded ops (a.put k.dst v).tmps) = Region.wanted r (yielded ops a.tmps) := fun v => wanted_put (ops := ops) r a k.dst v (fun d hd => hap.two d hd)
    simp only [List.cons_append] at h ⊢
    unfold Grow at h
    cases hpr : PV ir with
    | none =>
      simp only [hpr] at h
      obtain ⟨vr, h1, h2⟩ := h
      obtain ⟨h3, h4⟩ := pull_pred hs hrr k ik hk V hp w R2 R1 _ F hR' hF h2
      refine ⟨h3.congr (ek vr).symm (wk vr).symm, fun v => ?_⟩
      unfold Grow
      simp only [hpr]
      refine ⟨vr, fun w' hw hf => (h1 w' hw ?_).congr (er v) (wr v), ?_⟩
      · intro j hj
        have := hf j hj
        unfold upd at this
        rwa [if_neg (fun e => by subst e; rw [hdep'] at hj; cases hj)] at this
      · rw [← Act.put_comm a vr v hap.dst]
        exact h4 v
    | some V' =>
      simp only [hpr] at h
      obtain ⟨h1, h2⟩ := h
      have hne : ∀ j, dep j ik = true → j ≠ ir := fun j hj e => by subst e; rw [hdep] at hj; cases hj
      have hF' : ∀ v j, dep j ik = true → upd F ir (V' v) j w := fun v j hj => by
        unfold upd
        rw [if_neg (hne j hj)]
        exact hF j hj
      have ih := fun v => pull_pred hs hrr k ik hk V hp w R2 R1 _ (upd F ir (V' v)) hR' (hF' v) (h2 v)
      refine ⟨(ih undef).1.congr (ek undef).symm (wk undef).symm, fun v => ?_⟩
      unfold Grow
      simp only [hpr]
      refine ⟨fun w' hw hf => (h1 w' hw ?_).congr (er v) (wr v), fun v' => ?_⟩
      · intro j hj
        have := hf j hj
        unfold upd at this
        rwa [if_neg (fun e => by subst e; rw [hdep'] at hj; cases hj)] at this
      · rw [← Act.put_comm a v' v hap.dst, upd_comm F ik ir _ _ (Ne.symm hnek)]
        exact (ih v').2 v

/-- What is still to come. -/
def remains (ops : Array Oper) (listed : Array Bool) : List (Oper × Nat) := ops.toList.zipIdx.filter fun x => !listed.getD x.2 true

theorem zipIdx_split {l : List Oper} {i : Nat} {k : Oper} (h : l[i]? = some k) : ∃ L1 L2, l.zipIdx = L1 ++ (k, i) :: L2 ∧ (∀ x ∈ L1, x.2 < i ∧ l[x.2]? = some x.1) ∧ ∀ x ∈ L2, i < x.2 ∧ l[x.2]? = some x.1 := by
  have hi : i < l.length := by
    rcases Nat.lt_or_ge i l.length with h' | h'
    · exact h'
    · rw [List.getElem?_eq_none h'] at h; cases h
  have hk : l[i] = k := by rw [List.getElem?_eq_getElem hi] at h; exact Option.some.inj h
  refine ⟨l.zipIdx.take i, l.zipIdx.drop (i + 1), ?_, ?_, ?_⟩
  · have := List.take_append_drop i l.zipIdx
    rw [List.drop_eq_getElem_cons (by simpa using hi)] at this
    simpa [hk] using this.symm
  · intro x hx
    obtain ⟨j, hj, e⟩ := List.mem_iff_getElem.1 hx
    simp only [List.getElem_take, List.getElem_zipIdx, Nat.zero_add] at e
    simp only [List.length_take, List.length_zipIdx] at hj
    subst e
    exact ⟨by simp; omega, by simp [List.getElem?_eq_getElem (show j < l.length by omega)]⟩
  · intro x hx
    obtain ⟨j, hj, e⟩ := List.mem_iff_getElem.1 hx
    simp only [List.getElem_drop, List.getElem_zipIdx, Nat.zero_add] at e
    simp only [List.length_drop, List.length_zipIdx] at hj
    subst e
    exact ⟨by simp; omega, by simp [List.getElem?_eq_getElem (show i + 1 + j < l.length by omega)]⟩

theorem remains_split {ops : Array Oper} {listed : Array Bool} {i : Nat} {k : Oper} (h : ops[i]? = some k) (hl : listed.getD i true = false) :
    ∃ R1 R2, remains ops listed = R1 ++ (k, i) :: R2 ∧ remains ops (listed.setIfInBounds i true) = R1 ++ R2 ∧ ∀ x ∈ R1, x.2 < i ∧ ops[x.2]? = some x.1 ∧ listed.getD x.2 true = false := by
  obtain ⟨L1, L2, e, h1, h2⟩ := zipIdx_split (l := ops.toList) (by simpa using h)
  refine ⟨L1.filter fun x => !listed.getD x.2 true, L2.filter fun x => !listed.getD x.2 true, ?_, ?_, ?_⟩
  · unfold remains
    rw [e, List.filter_append, List.filter_cons, if_pos (by simp [hl])]
  · unfold remains
    have hset : ∀ j, i ≠ j → (listed.setIfInBounds i true).getD j true = listed.getD j true := fun j hj => getD_set_ne true hj
    have hself : (listed.setIfInBounds i true).getD i true = true := by
      by_cases hb : i < listed.size
      · simp [Array.getD, hb]
      · simp [Array.getD, hb]
    rw [e, List.filter_append, List.filter_cons, if_neg (by simp [hself])]
    congr 1
    · exact List.filter_congr fun x hx => by rw [hset _ (by have := (h1 x hx).1; omega)]
    · exact List.filter_congr fun x hx => by rw [hset _ (by have := (h2 x hx).1; omega)]
  · intro x hx
    rw [List.mem_filter] at hx
    exact ⟨(h1 x hx.1).1, by simpa using (h1 x hx.1).2, by simpa using hx.2⟩

theorem growOk_spec (h : growOk ops dep = true) {i j : Nat} {oi oj : Oper} (hi : ops[i]? = some oi) (hj : ops[j]? = some oj) :
    (dep j i = true → j < i ∧ ∃ e ∈ oi.after, Region.binds .any e = true ∧ (e.on = j ∨ dep j e.on = true)) ∧ (∀ d, oj.dst = some d → d ∈ oi.looksAt ops → dep j i = true) ∧ (i ≠ j → ∀ d, oi.dst = some d → oj.dst ≠ some d) ∧ (∀ e ∈ oi.after, Region.binds .any e = true → e.on < i) := by
  have hil : i < ops.size := (Array.getElem?_eq_some_iff.1 hi).1
  have hjl : j < ops.size := (Array.getElem?_eq_some_iff.1 hj).1
  simp only [growOk, Bool.and_eq_true, List.all_eq_true, List.mem_range] at h
  have := h.2 i hil j hjl
  simp only [hi, hj, Bool.and_eq_true, Bool.or_eq_true, Bool.not_eq_true', decide_eq_true_eq, beq_iff_eq, bne_iff_ne, List.any_eq_true, List.all_eq_true, Array.mem_toList_iff] at this
  obtain ⟨⟨⟨h1, h4⟩, h2⟩, h3⟩ := this
  refine ⟨fun hd => ?_, fun d hd hm => ?_, fun hne d hd hd' => ?_, fun e he hb => ?_⟩
  · rcases h1 with h1 | ⟨h1, e, he, hb, h4⟩
    · rw [hd] at h1; cases h1
    · exact ⟨h1, e, he, hb, h4⟩
  · rw [hd] at h2
    simp only [Bool.or_eq_true, Bool.not_eq_true'] at h2
    rcases h2 with h2 | h2
    · have : (Oper.looksAt ops oi).contains d = true := by simpa using hm
      rw [this] at h2; cases h2
    · exact h2
  · rcases h3 with (h3 | h3) | h3
    · exact hne h3
    · exact h3 (by rw [hd, hd'])
    · rw [hd] at h3; cases h3
  · rcases h4 e he with h5 | h5
    · rw [hb] at h5; cases h5
    · exact h5

theorem least {p : Nat → Prop} (h : ∃ n, p n) : ∃ n, p n ∧ ∀ m, m < n → ¬ p m := by
  obtain ⟨n, hn⟩ := h
  induction n using Nat.strongRecOn with
  | _ n ih =>
    by_cases hc : ∃ m, m < n ∧ p m
    · obtain ⟨m, hm, hp⟩ := hc
      exact ih m hm hp
    · exact ⟨n, hn, fun m hm hp => hc ⟨m, hm, hp⟩⟩

theorem grow_any (hok : growOk ops dep = true) (hrr : ∀ w, rel w w) (ht : ∀ a b c, rel a b → rel b c → rel a c) (hst : ∀ i V, PV i = some V → ∀ v w1 w2, rel w1 w2 → V v w1 → V v w2) :
    ∀ (fuel : Nat) (listed : Array Bool) (a : Act) (w : World) (F : Nat → World → Prop), listed.size = ops.size → (remains ops listed).length ≤ fuel →
      (∀ i o, ops[i]? = some o → listed.getD i true = true → ∀ j, dep j i = true → listed.getD j true = true) →
      (∀ j, F j w) → (∀ j w1 w2, rel w1 w2 → F j w1 → F j w2) → Grow P ops rel dep PV Q (remains ops listed) a w F → wpAny P .any ops Q fuel listed a w := by
  have hs : ∀ (i : Nat) (o : Oper) cs b, ops[i]? = some o → o.op ≠ .select cs b := by
    intro i o cs b ho
    have : Region.noSelect ops = true := by simp only [growOk, Bool.and_eq_true] at hok; exact hok.1
    exact Region.noSelect_spec this i o cs b ho
  have hnone : ∀ (listed : Array Bool), listed.size = ops.size → Region.ready .any ops listed = [] → remains ops listed = [] := by
    intro listed hsz he
    apply Classical.byContradiction
    intro hne
    obtain ⟨x, hx⟩ := List.exists_mem_of_ne_nil _ hne
    unfold remains at hx
    rw [List.mem_filter] at hx
    obtain ⟨hx1, hx2⟩ := hx
    have hx3 : ops[x.2]? = some x.1 := by
      obtain ⟨n, hn, e⟩ := List.mem_iff_getElem.1 hx1
      simp only [List.getElem_zipIdx, Nat.zero_add] at e
      subst e
      simp at hn ⊢
    obtain ⟨i, ⟨hi1, o, hi2⟩, hmin⟩ := least (p := fun i => listed.getD i true = false ∧ ∃ o, ops[i]? = some o) ⟨x.2, by simpa using hx2, x.1, hx3⟩
    have hmem : i ∈ Region.ready .any ops listed := mem_ready.2 ⟨hi1, o, hi2, fun e he hb => by
      have hlt := (growOk_spec hok hi2 hi2).2.2.2 e he hb
      have hio : i < ops.size := (Array.getElem?_eq_some_iff.1 hi2).1
      have hon : e.on < ops.size := by omega
      cases hg : listed.getD e.on true with
      | false => exact absurd ⟨hg, ops[e.on], Array.getElem?_eq_getElem hon⟩ (hmin _ hlt)
      | true =>
        have hol : e.on < listed.size := by omega
        simpa [Array.getD, hol] using hg⟩
    rw [he] at hmem
    cases hmem
  intro fuel
  induction fuel with
  | zero =>
    intro listed a w F hsz hlen _ hF _ h
    have hr : remains ops listed = [] := List.length_eq_zero_iff.1 (by omega)
    refine ⟨?_, ?_⟩
    · apply Classical.byContradiction
      intro hne
      obtain ⟨i, hi⟩ := List.exists_mem_of_ne_nil _ hne
      obtain ⟨h0, o, ho, _⟩ := mem_ready.1 hi
      obtain ⟨R1, R2, e, _⟩ := remains_split ho h0
      rw [hr] at e
      simp at e
    · rw [hr] at h
      exact h w (hrr w) hF
  | succ fuel ih =>
    intro listed a w F hsz hlen hcl hF hFs h
    refine ⟨fun he => ?_, fun k hk => ?_⟩
    · rw [hnone listed hsz he] at h
      exact h w (hrr w) hF
    · obtain ⟨h0, o, ho, hon⟩ := mem_ready.1 hk
      obtain ⟨R1, R2, e1, e2, h1⟩ := remains_split ho h0
      have hdeps : ∀ j, dep j k = true → listed.getD j true = true := by
        intro j hj
        rcases Nat.lt_or_ge j ops.size with hjl | hjl
        · obtain ⟨_, e, he, hb, hor⟩ := (growOk_spec hok ho (Array.getElem?_eq_getElem hjl)).1 hj
          have hel := hon e he hb
          have hlt := (growOk_spec hok ho ho).2.2.2 e he hb
          have hko : k < ops.size := (Array.getElem?_eq_some_iff.1 ho).1
          have hel' : listed.getD e.on true = true := by
            have : e.on < listed.size := by omega
            simpa [Array.getD, this] using hel
          rcases hor with rfl | hor
          · exact hel'
          · exact hcl e.on ops[e.on] (Array.getElem?_eq_getElem (by omega)) hel' j hor
        · have : ¬ j < listed.size := by omega
          simp [Array.getD, this]
      have hkl : k < listed.size := by
        have hko : k < ops.size := (Array.getElem?_eq_some_iff.1 ho).1
        omega
      have hlen' : (remains ops (listed.setIfInBounds k true)).length ≤ fuel := by
        rw [e1] at hlen
        rw [e2]
        simp at hlen ⊢
        omega
      have hcl' : ∀ i o, ops[i]? = some o → (listed.setIfInBounds k true).getD i true = true → ∀ j, dep j i = true → (listed.setIfInBounds k true).getD j true = true := by
        intro i oi hi hl j hj
        by_cases hjk : k = j
        · subst hjk; simp [Array.getD, hkl]
        · rw [getD_set_ne true hjk]
          by_cases hik : k = i
          · subst hik; exact hdeps j hj
          · rw [getD_set_ne true hik] at hl
            exact hcl i oi hi hl j hj
      have hapart : ∀ x ∈ R1, ops[x.2]? = some x.1 ∧ dep x.2 k = false ∧ dep k x.2 = false ∧ x.2 ≠ k ∧ Apart ops x.1 o := by
        intro x hx
        obtain ⟨hlt, hxo, hxl⟩ := h1 x hx
        have s1 := growOk_spec hok ho hxo
        have s2 := growOk_spec hok hxo ho
        have d1 : dep x.2 k = false := by
          cases hd : dep x.2 k with
          | false => rfl
          | true => rw [hdeps _ hd] at hxl; cases hxl
        have d2 : dep k x.2 = false := by
          cases hd : dep k x.2 with
          | false => rfl
          | true => have := (s2.1 hd).1; omega
        refine ⟨hxo, d1, d2, by omega, ⟨fun d hd hm => ?_, fun d hd hm => ?_, fun d hd => ?_⟩⟩
        · have := s1.2.1 d hd hm; rw [d1] at this; cases this
        · have := s2.2.1 d hd hm; rw [d2] at this; cases this
        · exact s2.2.2.1 (by omega) d hd
      rw [e1] at h
      unfold wpOp
      simp only [ho]
      cases hp : PV k with
      | none =>
        obtain ⟨v, hv, hg⟩ := pull_det hs hrr o k ho hp w R2 R1 a F (fun x hx => ⟨(hapart x hx).1, (hapart x hx).2.1, (hapart x hx).2.2.2.2⟩) (fun j _ => hF j) h
        rw [← e2] at hg
        have hnext := ih _ _ w F (by simpa using hsz) hlen' hcl' hF hFs hg
        unfold Runs at hv
        split
        · rename_i hw
          rw [if_pos hw] at hv
          left
          simp only [Oper.wp, hv, Oper.upon]
          exact hnext
        · rename_i hw
          rw [if_neg hw] at hv
          rw [hv] at hnext
          exact hnext
      | some V =>
        obtain ⟨hv, hg⟩ := pull_pred hs hrr o k ho V hp w R2 R1 a F hapart (fun j _ => hF j) h
        have hnext : ∀ v w'', rel w w'' ∧ V v w'' → wpAny P .any ops Q fuel (listed.setIfInBounds k true) (a.put o.dst v) w'' := by
          intro v w'' ⟨hrel, hV⟩
          have hg' := hg v
          rw [← e2] at hg'
          refine ih _ _ w'' (upd F k (V v)) (by simpa using hsz) hlen' hcl' ?_ ?_ (Grow.later ht _ _ _ _ _ hrel hg')
          · intro j
            unfold upd
            split
            · exact hV
            · exact hFs j _ _ hrel (hF j)
          · intro j w1 w2 hr2 hx
            unfold upd at hx ⊢
            split
            · rename_i e; rw [if_pos e] at hx; exact hst k V hp v w1 w2 hr2 hx
            · rename_i e; rw [if_neg e] at hx; exact hFs j w1 w2 hr2 hx
        unfold Gives at hv
        split
        · rename_i hw
          rw [if_pos hw] at hv
          left
          exact gives_wp hv hnext
        · rename_i hw
          rw [if_neg hw] at hv
          exact hnext _ _ hv

/-- Every order of a region by one walk in the order of its text. 'dep j i': does operation i wait for operation j. -/
theorem wp_region_grow {id : Nat} {a : Act} {w : World} {l : List Oper} (rel : World → World → Prop) (PV : Nat → Option (Value → World → Prop)) (hm : P.follows .mixedOrders = true)
    (hok : growOk l.toArray (fun j i => ((Region.before l.toArray).getD i 0).testBit j) = true)
    (hrr : ∀ w, rel w w) (ht : ∀ a b c, rel a b → rel b c → rel a c) (hst : ∀ i V, PV i = some V → ∀ v w1 w2, rel w1 w2 → V v w1 → V v w2)
    (h : Grow P l.toArray rel (fun j i => ((Region.before l.toArray).getD i 0).testBit j) PV Q l.zipIdx a w.drew (fun _ _ => True)) : (Code.region id l.toArray true).wp P Q a w := by
  refine wp_region_any hm ?_
  refine grow_any hok hrr ht hst _ _ a w.drew (fun _ _ => True) (by simp) ?_ ?_ (fun _ => trivial) (fun _ _ _ _ _ => trivial) ?_
  · unfold remains
    refine Nat.le_trans (List.length_filter_le _ _) (by simp)
  · intro i o hi hl j _
    have : i < l.length := by have := (Array.getElem?_eq_some_iff.1 hi).1; simpa using this
    simp [Array.getD, this] at hl
  · have : remains l.toArray (Array.replicate l.toArray.size false) = l.zipIdx := by
      unfold remains
      rw [List.filter_eq_self]
      intro x hx
      obtain ⟨n, hn, e⟩ := List.mem_iff_getElem.1 hx
      simp only [List.getElem_zipIdx, Nat.zero_add] at e
      subst e
      simp at hn
      simp [Array.getD, hn]
    rw [this]
    exact h
end

/-! The steps. -/
section
variable {P : Program} {ops : Array Oper} {rel : World → World → Prop} {dep : Nat → Nat → Bool} {PV : Nat → Option (Value → World → Prop)} {Q : Exit → Act → World → Prop} {o : Oper} {i : Nat} {R : List (Oper × Nat)} {a : Act} {w : World} {F : Nat → World → Prop}

/-- An operation that yields v in every world. -/
theorem grow_det (v : Value) (hp : PV i = none) (h : ∀ w', Runs P ops o a v w') (rest : Grow P ops rel dep PV Q R (a.put o.dst v) w F) : Grow P ops rel dep PV Q ((o, i) :: R) a w F := by
  unfold Grow
  simp only [hp]
  exact ⟨v, fun w' _ _ => h w', rest⟩

/-- An operation that yields v in every world that comes of this one. -/
theorem grow_read (v : Value) (hp : PV i = none) (h : ∀ w', rel w w' → (∀ j, dep j i = true → F j w') → Runs P ops o a v w') (rest : Grow P ops rel dep PV Q R (a.put o.dst v) w F) : Grow P ops rel dep PV Q ((o, i) :: R) a w F := by
  unfold Grow
  simp only [hp]
  exact ⟨v, h, rest⟩

theorem grow_pred (V : Value → World → Prop) (hp : PV i = some V) (h : ∀ w', rel w w' → (∀ j, dep j i = true → F j w') → Gives P ops o a w' (fun v w'' => rel w' w'' ∧ V v w'')) (rest : ∀ v, Grow P ops rel dep PV Q R (a.put o.dst v) w (upd F i (V v))) : Grow P ops rel dep PV Q ((o, i) :: R) a w F := by
  unfold Grow
  simp only [hp]
  exact ⟨h, rest⟩

theorem grow_end (h : ∀ w', rel w w' → (∀ j, F j w') → Q .normal a w') : Grow P ops rel dep PV Q [] a w F := h

theorem upd_self (F : Nat → World → Prop) (i : Nat) (p : World → Prop) (w : World) : upd F i p i w = p w := by simp [upd]
theorem upd_ne (F : Nat → World → Prop) (i j : Nat) (p : World → Prop) (w : World) (h : (j == i) = false) : upd F i p j w = F j w := by
  have : ¬ j = i := by simpa using h
  simp [upd, this]
end
end Go.Proofs.YtiobdnnijbfdhaaDoor
