/- The journal's plain law, second part: Open and Format. -/
import Derived.Test.YtpmlmjbhgonegaaJPure
import Derived.Test.YtpmlmjbhgonegaaJOpen
namespace Go.Proofs.Ytpmlmjbhgonegaa
open Go.RowKit

theorem headBytes_num (g h k : Nat) (hk : k < 8) : (headBytes g h)[8 + k]? = some (be8 g k) := by
  unfold headBytes
  rw [List.append_assoc, List.getElem?_append_right (by simp [markBytes])]
  rw [show 8 + k - markBytes.length = k by simp [markBytes], List.getElem?_append_left (by simpa using hk)]
  simp [hk]
theorem headBytes_hand (g h : Nat) : (headBytes g h)[16]? = some (UInt8.ofNat h) := by
  unfold headBytes
  rw [List.getElem?_append_right (by simp [markBytes])]
  simp [markBytes]
theorem headBytes_ne (g h : Nat) : zeros64 ≠ headBytes g h := by
  intro e
  have := congrArg (fun l => l[0]?) e
  simp [zeros64, headBytes, markBytes] at this

theorem room_of {D : DK} {len at_ : Int} (ha : 0 ≤ at_) (ha2 : at_ + 199 ≤ len) (hlen : D.len = len) : roomAt D at_ = true := by
  unfold roomAt
  simp
  omega

/-- How Open finds what is to be found. -/
theorem jOpen_spec {len at_ : Int} {g : Nat} {D : DK} {E : Img} (ha : 0 ≤ at_) (ha2 : at_ + 199 ≤ len) (hoff : D.off = false) (hlen : D.len = len) (hs : Sound len at_ g D.get E) :
    ∃ hand, hand < 256 ∧ (∀ k, k < 8 → (D.get at_)[8 + k]? = some (be8 g k)) ∧ (D.get at_)[16]? = some (UInt8.ofNat hand) ∧
      Next D (jOpen D at_ g hand).1 (jOpen D at_ g hand).2 ∧ ((jOpen D at_ g hand).2 = 0 → Clean at_ g (jOpen D at_ g hand).1.get E) ∧ Sound len at_ g (jOpen D at_ g hand).1.get E := by
  have hroom := room_of ha ha2 hlen
  have hc : D.code at_ = 0 := code_on hoff ha (by omega)
  rcases hs with h | ⟨l, h⟩
  · have e : jOpen D at_ g 0 = (D, 0) := by
      unfold jOpen
      rw [if_neg (by rw [hroom]; decide), if_neg (by rw [hc]; decide), if_neg (by rw [h.head]; simp), if_pos rfl]
    refine ⟨0, by decide, fun k hk => by rw [h.head]; exact headBytes_num g 0 k hk, by rw [h.head]; exact headBytes_hand g 0, ?_⟩
    rw [e]
    exact ⟨.refl D hoff, fun _ => h, .inl h⟩
  · have hfew := h.group.few
    have hn0 : l.length ≠ 0 := fun e => h.some (List.length_eq_zero_iff.1 e)
    have e : jOpen D at_ g l.length = jFinish D at_ g l.length := by
      unfold jOpen
      rw [if_neg (by rw [hroom]; decide), if_neg (by rw [hc]; decide), if_neg (by rw [h.head]; simp; omega), if_neg hn0]
    refine ⟨l.length, by omega, fun k hk => by rw [h.head]; exact headBytes_num g _ k hk, by rw [h.head]; exact headBytes_hand g _, ?_⟩
    rw [e]
    exact jFinish_spec ha ha2 hoff hlen h

/-- Open, where nothing was formatted. -/
theorem jOpen_none {D : DK} {at_ : Int} (hroom : roomAt D at_ = true) (hc : D.code at_ = 0) (hz : D.get at_ = zeros64) :
    (∀ k, k < 8 → (D.get at_)[8 + k]? = some (be8 0 k)) ∧ (D.get at_)[16]? = some (UInt8.ofNat 0) ∧ jOpen D at_ 0 0 = (D, 4) := by
  refine ⟨fun k hk => ?_, by rw [hz]; rfl, ?_⟩
  · rw [hz]
    unfold zeros64 be8
    rw [List.getElem?_replicate, if_pos (by omega)]
    simp
  · unfold jOpen
    rw [if_neg (by rw [hroom]; decide), if_neg (by rw [hc]; decide), if_pos (.inl (by rw [hz]; exact headBytes_ne 0 0))]

/-- Format. -/
theorem jFormat_spec {len at_ : Int} {D : DK} {E : Img} (ha : 0 ≤ at_) (ha2 : at_ + 199 ≤ len) (hoff : D.off = false) (hlen : D.len = len) (hE : ∀ n, ¬ inJ at_ n → D.get n = E n) :
    Next D (jFormat D at_).1 (jFormat D at_).2 ∧ ((jFormat D at_).2 = 0 → Clean at_ 0 (jFormat D at_).1.get E) ∧ ((jFormat D at_).2 ≠ 0 → (jFormat D at_).1.get = D.get) := by
  unfold jFormat
  rw [if_pos (room_of ha ha2 hlen)]
  obtain ⟨w1, w2, w3⟩ := write_next D at_ (headBytes 0 0) hoff ha (by omega) (headBytes_length 0 0)
  refine ⟨w1, fun e => ⟨?_, fun n hn => ?_⟩, w3⟩
  · rw [w2 e]; unfold Img.put; rw [if_pos rfl]
  · rw [w2 e]; unfold Img.put; rw [if_neg (fun e => hn (by unfold inJ; omega))]; exact hE n hn

theorem jFormat_under {D : DK} {m : Int} (h : D.under m) (at_ : Int) : (jFormat D at_).1.under (m + 1) := by
  unfold jFormat
  split
  · exact h.write _ _
  · exact h.mono (by omega)
theorem jOpen_under {D : DK} {m : Int} (h : D.under m) (at_ : Int) (g hand : Nat) (hh : hand < 256) : (jOpen D at_ g hand).1.under (m + 257) := by
  unfold jOpen
  split
  · exact h.mono (by omega)
  · split
    · exact h.mono (by omega)
    · split
      · exact h.mono (by omega)
      · split
        · exact h.mono (by omega)
        · exact (jFinish_under h at_ g hand).mono (by omega)
theorem jCommit_under {D : DK} {m : Int} (h : D.under m) (at_ : Int) (g : Nat) (l : List (Int × List UInt8)) (may : Bool) (hm : may = true → l.length ≤ 192) : (jCommit D at_ g l may).1.under (m + 400) := by
  unfold jCommit
  split
  · exact h.mono (by omega)
  · rename_i hmay
    have hl := hm (by simpa using hmay)
    have h1 := jRow_under (putsRow at_ l) l.length 0 D m h
    split
    · exact h1.mono (by omega)
    · unfold jCommit2
      have h2 := jRow_under (listsRow at_ l) ((2 * l.length + 63) / 64) 0 _ _ h1
      split
      · exact h2.mono (by omega)
      · unfold jCommit3
        have h3 := h2.write at_ (headBytes (g + 1) l.length)
        split
        · exact h3.mono (by omega)
        · split
          · exact h3.mono (by omega)
          · exact (jFinish_under h3 at_ (g + 1) l.length).mono (by omega)
end Go.Proofs.Ytpmlmjbhgonegaa
