/- Plain lists of bytes: a folded line's characters are the line's own, also across the rows' ends. No program, no memory. -/
import Derived.Test.YtpjidedgifjgeaaDoorChars
namespace Go.Proofs.YtpjidedgifjgeaaDoor.Ch

def cont (b : UInt8) : Prop := 128 ≤ b.toNat ∧ b.toNat ≤ 191
theorem decodeN_same (n n' b0 b1 b2 b3 c1 c2 c3 k : Nat) (hk : (Lib.decodeN n b0 b1 b2 b3).2 = k) (h2 : 2 ≤ k) (hn : k ≤ n') (e1 : b1 = c1) (e2 : 2 < k → b2 = c2) (e3 : 3 < k → b3 = c3) : (Lib.decodeN n' b0 c1 c2 c3).2 = k := by
  subst e1
  unfold Lib.decodeN at hk
  by_cases q0 : b0 < 128
  · rw [if_pos q0] at hk; simp only at hk; omega
  · rw [if_neg q0] at hk
    by_cases q1 : b0 / 32 = 6 ∧ (1 < n ∧ b1 / 64 = 2)
    · rw [if_pos q1] at hk
      split at hk
      · rename_i q; simp only at hk; subst hk
        unfold Lib.decodeN
        rw [if_neg q0, if_pos ⟨q1.1, by omega, q1.2.2⟩, if_pos q]
      · simp only at hk; omega
    · rw [if_neg q1] at hk
      by_cases q2 : b0 / 16 = 14 ∧ (1 < n ∧ b1 / 64 = 2) ∧ (2 < n ∧ b2 / 64 = 2)
      · rw [if_pos q2] at hk
        split at hk
        · rename_i q; simp only at hk; subst hk
          have := e2 (by omega); subst this
          unfold Lib.decodeN
          rw [if_neg q0, if_neg (by omega), if_pos ⟨q2.1, ⟨by omega, q2.2.1.2⟩, by omega, q2.2.2.2⟩, if_pos q]
        · simp only at hk; omega
      · rw [if_neg q2] at hk
        by_cases q3 : b0 / 8 = 30 ∧ (1 < n ∧ b1 / 64 = 2) ∧ (2 < n ∧ b2 / 64 = 2) ∧ (3 < n ∧ b3 / 64 = 2)
        · rw [if_pos q3] at hk
          split at hk
          · rename_i q; simp only at hk; subst hk
            have := e2 (by omega); subst this
            have := e3 (by omega); subst this
            unfold Lib.decodeN
            rw [if_neg q0, if_neg (by omega), if_neg (by omega), if_pos ⟨q3.1, ⟨by omega, q3.2.1.2⟩, ⟨by omega, q3.2.2.1.2⟩, by omega, q3.2.2.2.2⟩, if_pos q]
          · simp only at hk; omega
        · rw [if_neg q3] at hk; simp only at hk; omega
theorem decodeN_cont (n b0 b1 b2 b3 : Nat) (h1 : b1 < 256) (h2 : b2 < 256) (h3 : b3 < 256) (i : Nat) (hi : 1 ≤ i) (hk : i < (Lib.decodeN n b0 b1 b2 b3).2) :
    (i = 1 ∧ 128 ≤ b1 ∧ b1 ≤ 191) ∨ (i = 2 ∧ 128 ≤ b2 ∧ b2 ≤ 191) ∨ (i = 3 ∧ 128 ≤ b3 ∧ b3 ≤ 191) := by
  unfold Lib.decodeN at hk
  repeat' split at hk
  all_goals (simp only at hk; omega)
theorem at_append (l X : Bs) (i : Nat) (h : i < l.length) : at_ (l ++ X) i = at_ l i := by
  unfold at_
  rw [List.getD_eq_getElem?_getD, List.getD_eq_getElem?_getD, List.getElem?_append_left h]
theorem at_take (l : Bs) (n i : Nat) (h : i < n) : at_ (l.take n) i = at_ l i := by
  unfold at_
  rw [List.getD_eq_getElem?_getD, List.getD_eq_getElem?_getD, List.getElem?_take_of_lt h]
/-- A character of two bytes or more is one whatever stands behind it. -/
theorem chr_take {l : Bs} (h : 2 ≤ chr l) (X : Bs) : chr (l.take (chr l) ++ X) = chr l := by
  have hle := chr_le l
  have h4 := chr_le4 l
  have hln : (l.take (chr l)).length = chr l := take_chr_length l
  have hat : ∀ i, i < chr l → at_ (l.take (chr l) ++ X) i = at_ l i := fun i hi => by rw [at_append _ _ _ (by omega), at_take _ _ _ hi]
  have hz : l.length ≠ 0 := by omega
  obtain ⟨k, hk⟩ : ∃ k, chr l = k := ⟨_, rfl⟩
  have hd : (Lib.decodeN l.length (at_ l 0) (at_ l 1) (at_ l 2) (at_ l 3)).2 = k := by rw [← hk]; unfold chr; rw [if_neg hz]
  rw [hk] at hle h4 hln hat h ⊢
  have hnz : (l.take k ++ X).length ≠ 0 := by rw [List.length_append]; omega
  rw [chr, if_neg hnz, hat 0 (by omega)]
  exact decodeN_same _ _ _ _ _ _ _ _ _ k hd h (by rw [List.length_append]; omega) (hat 1 (by omega)).symm (fun q => (hat 2 q).symm) (fun q => (hat 3 q).symm)
theorem chr_cont {l : Bs} {i : Nat} (h1 : 1 ≤ i) (h2 : i < chr l) : 128 ≤ at_ l i ∧ at_ l i ≤ 191 := by
  have hz : l.length ≠ 0 := by have := chr_le l; omega
  unfold chr at h2
  rw [if_neg hz] at h2
  rcases decodeN_cont _ _ _ _ _ (at_lt l 1) (at_lt l 2) (at_lt l 3) i h1 h2 with ⟨rfl, h⟩ | ⟨rfl, h⟩ | ⟨rfl, h⟩ <;> exact h
theorem chr_of_cont {b : UInt8} (X : Bs) (h : 128 ≤ b.toNat ∧ b.toNat ≤ 191) : chr (b :: X) = 1 := by
  unfold chr
  rw [if_neg (by simp)]
  have : at_ (b :: X) 0 = b.toNat := rfl
  rw [this]
  unfold Lib.decodeN
  rw [if_neg (by omega), if_neg (by omega), if_neg (by omega), if_neg (by omega)]
/-- What stands at a row's begin, as long as it only goes on a character, is the line's own. -/
theorem fold_cont : ∀ (m : Nat) (l : Bs) (room : Nat), (∀ i, i < m → 128 ≤ at_ (foldR room (chars l)) i ∧ at_ (foldR room (chars l)) i ≤ 191) → (foldR room (chars l)).take m = l.take m ∧ m ≤ l.length
  | 0, _, _, _ => by simp
  | m + 1, l, room, h => by
    have h0 := h 0 (by omega)
    by_cases hl : l = []
    · subst hl
      have : at_ (foldR room (chars [])) 0 = 13 := rfl
      omega
    · obtain ⟨b, l', rfl⟩ := List.exists_cons_of_ne_nil hl
      rw [chars_cons hl] at h h0 ⊢
      simp only [foldR] at h h0 ⊢
      split at h
      · rename_i hb
        rw [if_pos hb] at h0
        have : at_ (13 :: 10 :: 32 :: ((b :: l').take (chr (b :: l')) ++ foldR (74 - ((b :: l').take (chr (b :: l'))).length) (chars ((b :: l').drop (chr (b :: l')))))) 0 = 13 := rfl
        omega
      · rename_i hb
        rw [if_neg hb] at h0 ⊢
        have c1 := chr_pos hl
        have hb0 : at_ ((b :: l').take (chr (b :: l')) ++ foldR (room - ((b :: l').take (chr (b :: l'))).length) (chars ((b :: l').drop (chr (b :: l'))))) 0 = b.toNat := by
          rw [at_append _ _ _ (by rw [take_chr_length]; omega), at_take _ _ _ (by omega)]; rfl
        rw [hb0] at h0
        have hc := chr_of_cont l' h0
        rw [hc] at h ⊢
        simp only [List.take_succ_cons, List.take_zero, List.drop_succ_cons, List.drop_zero, List.cons_append, List.nil_append, List.length_singleton] at h ⊢
        have ih := fold_cont m l' (room - 1) (fun i hi => h (i + 1) (by omega))
        exact ⟨by rw [ih.1], by simpa using ih.2⟩
/-- The character that begins a row has the line's length. -/
theorem chr_fold (l : Bs) (room : Nat) (h : l ≠ []) : chr (l.take (chr l) ++ foldR room (chars (l.drop (chr l)))) = chr l := by
  by_cases h2 : 2 ≤ chr l
  · exact chr_take h2 _
  · have h1 := chr_pos h
    obtain ⟨b, l', rfl⟩ := List.exists_cons_of_ne_nil h
    have e1 : chr (b :: l') = 1 := by omega
    rw [e1]
    simp only [List.take_succ_cons, List.take_zero, List.drop_succ_cons, List.drop_zero, List.cons_append, List.nil_append]
    have p := chr_pos (l := b :: foldR room (chars l')) (by simp)
    by_cases hb : 2 ≤ chr (b :: foldR room (chars l'))
    · exfalso
      obtain ⟨n, hn⟩ : ∃ n, chr (b :: foldR room (chars l')) = n + 1 := ⟨chr (b :: foldR room (chars l')) - 1, by omega⟩
      have hc := fold_cont n l' room (fun i hi => by
        have := chr_cont (l := b :: foldR room (chars l')) (i := i + 1) (by omega) (by omega)
        exact this)
      have ht := chr_take hb (l'.drop n)
      rw [hn, List.take_succ_cons, hc.1, List.cons_append, List.take_append_drop] at ht
      omega
    · omega
end Go.Proofs.YtpjidedgifjgeaaDoor.Ch
