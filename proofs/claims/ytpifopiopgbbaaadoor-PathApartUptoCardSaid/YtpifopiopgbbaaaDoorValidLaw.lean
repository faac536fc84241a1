/- What the document calls a valid text, and a text that fits, is what the package calls so. -/
import Derived.Test.YtpifopiopgbbaaaDoorRune
import Derived.Test.YtpifopiopgbbaaaDoorExtF
namespace Go.Proofs.YtpifopiopgbbaaaDoor.Pf
open Go.RowKit Go.Proofs.YtpifopiopgbbaaaDoorW.PrintWords
open By (L size_L L_mk mk_L L_inj L_extract L_to L_from wrap_in)
open Ch (Bs at_)
set_option linter.unusedSimpArgs false

theorem decodeL_N (l : Bs) : Lib.decodeL l = Lib.decodeN l.length (at_ l 0) (at_ l 1) (at_ l 2) (at_ l 3) := by
  unfold Lib.decodeL
  rw [Lib.decode_at]
  simp only [By.get!_L, L_mk, Nat.zero_add, Nat.sub_zero, size_mk]
  rfl
theorem decode_drop (s : ByteArray) (p : Nat) : Utf8.decode s p = Lib.decodeL ((L s).drop p) := by
  rw [Lib.decode_at, decodeL_N]
  have e : ∀ i, at_ ((L s).drop p) i = (s.get! (p + i)).toNat := by
    intro i
    unfold at_
    rw [By.get!_L, List.getD_eq_getElem?_getD, List.getD_eq_getElem?_getD, List.getElem?_drop]
  rw [e, e, e, e, List.length_drop, ← size_L]
  rfl
def validR : Nat → Bs → Bool
  | 0, _ => true
  | n + 1, l => if l = [] then true else if Lib.decodeL l = (65533, 1) then false else if Pa.ctl (Lib.decodeL l).1 then false else validR n (l.drop (Lib.decodeL l).2)
theorem validR_eq (s : ByteArray) : ∀ (n p : Nat), (Lib.validGoD n ((L s).drop p) && decide (Lib.idxFuncFrom Pa.ctl true s n p < 0)) = validR n ((L s).drop p)
  | 0, p => by simp [Lib.validGoD, Lib.idxFuncFrom, validR]
  | n + 1, p => by
    unfold Lib.validGoD Lib.idxFuncFrom validR
    by_cases h : (L s).drop p = []
    · have hp : ¬ p < s.size := by
        intro hp
        have := congrArg List.length h
        rw [List.length_drop, ← size_L, List.length_nil] at this
        omega
      rw [if_pos h, if_pos h, if_neg hp]
      rfl
    · have hp : p < s.size := by
        rcases Nat.lt_or_ge p s.size with h1 | h1
        · exact h1
        · exact absurd (List.drop_eq_nil_of_le (by rw [← size_L]; exact h1)) h
      rw [if_neg h, if_neg h, if_pos hp, decode_drop]
      by_cases hd : Lib.decodeL ((L s).drop p) = (65533, 1)
      · have h1 : (Lib.decodeL ((L s).drop p)).1 = 65533 ∧ (Lib.decodeL ((L s).drop p)).2 = 1 := by rw [hd]; exact ⟨rfl, rfl⟩
        rw [if_pos h1, if_pos hd]
        rfl
      · have h1 : ¬ ((Lib.decodeL ((L s).drop p)).1 = 65533 ∧ (Lib.decodeL ((L s).drop p)).2 = 1) := fun e => hd (Prod.ext e.1 e.2)
        rw [if_neg h1, if_neg hd]
        by_cases hc : Pa.ctl (Lib.decodeL ((L s).drop p)).1 = true
        · rw [if_pos hc, if_pos hc, decide_eq_false (by omega), Bool.and_false]
        · rw [if_neg hc, if_neg hc]
          have := validR_eq s n (p + (Lib.decodeL ((L s).drop p)).2)
          rw [List.drop_drop]
          exact this
theorem valid_R (s : ByteArray) : Pa.valid s = validR s.size (L s) := by
  have := validR_eq s s.size 0
  rw [List.drop_zero] at this
  rw [← this]
  unfold Pa.valid Lib.validD Lib.idxFunc
  rw [← Lib.size_eq]
theorem rune_dec (s : ByteArray) (h : L s ≠ []) : Ev (fun k => calepinref01_Rune.f k s) (decP (Lib.decodeL (L s))) := by
  have := rune_any s h
  have e0 : bt s 0 = (at_ (L s) 0 : Int) := By.bt_L s 0
  have e1 : bt s 1 = (at_ (L s) 1 : Int) := By.bt_L s 1
  have e2 : bt s 2 = (at_ (L s) 2 : Int) := By.bt_L s 2
  have e3 : bt s 3 = (at_ (L s) 3 : Int) := By.bt_L s 3
  rw [e0, e1, e2, e3] at this
  rw [decodeL_N, ← runeP_dec _ _ _ _ _ (Ch.at_lt _ _) (Ch.at_lt _ _) (Ch.at_lt _ _) (Ch.at_lt _ _), ← size_L]
  exact this
theorem valid_loop : ∀ (n : Nat) (s : ByteArray), s.size ≤ n → s.size ≤ 4611686018427387904 → Ev (fun k => calepinref01_Valid.l0 k s) (validR n (L s))
  | 0, s, h, _ => by
    refine Ev.k1 ?_
    have g : ¬ (s.size : Int) > 0 := by omega
    simp only [calepinref01_Valid.l0, g, if_false, validR]
    exact Ev.now _
  | n + 1, s, h, hb => by
    refine Ev.k1 ?_
    unfold validR
    by_cases h0 : L s = []
    · have g : ¬ (s.size : Int) > 0 := by rw [size_L, h0]; decide
      simp only [calepinref01_Valid.l0, g, if_false, h0, if_true]
      exact Ev.now _
    · have g : (s.size : Int) > 0 := by
        have : s.size ≠ 0 := fun e => h0 (List.eq_nil_of_length_eq_zero (by rw [← size_L]; exact e))
        omega
      simp only [calepinref01_Valid.l0, g, if_true]
      rw [if_neg h0]
      refine Ev.bind (rune_dec s h0) ?_
      by_cases hd : Lib.decodeL (L s) = (65533, 1)
      · rw [hd, if_pos rfl, decP_bad]
        simp only [if_true]
        exact Ev.now _
      · rw [if_neg hd]
        have hw := Lib.decodeL_width (L s)
        have hle : (Lib.decodeL (L s)).2 ≤ s.size := by
          rw [decodeL_N, size_L]
          exact (Ch.decodeN_len _ _ _ _ _ (by rw [← size_L]; omega)).2.1
        obtain ⟨r, m, hdm⟩ : ∃ r m, Lib.decodeL (L s) = (r, m) := ⟨_, _, rfl⟩
        rw [hdm] at hw hle hd ⊢
        have e : decP (r, m) = ((r : Int), (m : Int)) := if_neg hd
        have g1 : ¬ (m : Int) = 0 := by simp at hw; omega
        have g2 : (0 : Int) ≤ (m : Int) := by omega
        have g3 : (m : Int) ≤ (s.size : Int) := by simp at hle; omega
        rw [e]
        have hrec : Ev (fun k => calepinref01_Valid.l0 k (s.extract m s.size)) (validR n ((L s).drop m)) := by
          have := valid_loop n (s.extract m s.size) (by rw [size_L, L_to, List.length_drop, ← size_L]; simp at hw; omega) (by rw [size_L, L_to, List.length_drop, ← size_L]; omega)
          rw [L_to] at this
          exact this
        simp only [g1, g2, g3, if_true, if_false, Int.toNat_natCast]
        unfold Pa.ctl
        by_cases c1 : r = 127
        · have d1 : (r : Int) = 127 := by omega
          simp only [d1, if_true, c1]
          exact Ev.now _
        · have d1 : ¬ (r : Int) = 127 := by omega
          have b1 : (r == 127) = false := beq_eq_false_iff_ne.2 c1
          simp only [d1, if_false, b1, Bool.or_false, decide_eq_true_eq]
          by_cases c2 : r < 32
          · have d2 : (r : Int) < 32 := by omega
            simp only [d2, if_true]
            by_cases c3 : r = 9
            · have d3 : (r : Int) = 9 := by omega
              rw [if_neg (by omega)]
              simp only [d3, if_true]
              exact hrec
            · have d3 : ¬ (r : Int) = 9 := by omega
              simp only [d3, if_false]
              by_cases c4 : r = 10
              · have d4 : (r : Int) = 10 := by omega
                rw [if_neg (by omega)]
                simp only [d4, if_true]
                exact hrec
              · have d4 : ¬ (r : Int) = 10 := by omega
                simp only [d4, if_false]
                by_cases c5 : r = 13
                · have d5 : (r : Int) = 13 := by omega
                  rw [if_neg (by omega)]
                  simp only [d5, if_true]
                  exact hrec
                · have d5 : ¬ (r : Int) = 13 := by omega
                  rw [if_pos (by omega)]
                  simp only [d5, if_false]
                  exact Ev.now _
          · have d2 : ¬ (r : Int) < 32 := by omega
            rw [if_neg (by omega)]
            simp only [d2, if_false]
            exact hrec
theorem fitsB_eq (s : ByteArray) (h : s.size ≤ 9223372036854775807) : Pc.fitsB s = (if Pa.valid s = true then (if (s.size : Int) > 0 then (if (s.size : Int) < 65 then (if s.toList = ([46] : List UInt8) then false else (s.toList != ([46, 46] : List UInt8))) else false) else false) else false) := by
  unfold Pc.fitsB Pb.path_fits.f Pb.char_Valid.f
  rw [if_pos h]
  simp only [Option.bind_some]
  have e1 : ((s.size : Int) ≥ 1) = ((s.size : Int) > 0) := propext ⟨fun h => by omega, fun h => by omega⟩
  have e2 : ((s.size : Int) ≤ 64) = ((s.size : Int) < 65) := propext ⟨fun h => by omega, fun h => by omega⟩
  simp only [e1, e2]
  repeat' split
  all_goals rfl
theorem refFits_any (s : ByteArray) (h : s.size ≤ 4611686018427387904) : Ev (fun k => calepinref06_Fits.f k s) (Pc.fitsB s) := by
  unfold calepinref06_Fits.f
  have hv : Ev (fun k => calepinref01_Valid.f k s) (Pa.valid s) := by
    rw [valid_R]
    exact valid_loop s.size s (Nat.le_refl _) h
  refine Ev.bind hv ?_
  rw [fitsB_eq s (by omega)]
  repeat' split
  all_goals first | exact Ev.now _ | contradiction
end Go.Proofs.YtpifopiopgbbaaaDoor.Pf
