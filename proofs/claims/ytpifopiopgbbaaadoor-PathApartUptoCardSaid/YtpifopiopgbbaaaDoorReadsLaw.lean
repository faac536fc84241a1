/- calepinlaw06.PathReads, plain: what the printed law comes to is true, at every text of at most 2^30 bytes. -/
import Derived.Test.YtpifopiopgbbaaaDoorParseLaw
namespace Go.Proofs.YtpifopiopgbbaaaDoor.Pf
open Go.RowKit Go.Proofs.YtpifopiopgbbaaaDoorW.PrintWords Pc
open By (L size_L L_mk mk_L L_inj L_extract L_to L_from wrap_in)
set_option linter.unusedSimpArgs false

theorem rparts_err (s : ByteArray) : Ev (fun k => calepinref06_Parse.j0 k s true) (rOut none) := by
  refine Ev.k1 ?_
  simp only [calepinref06_Parse.j0, if_true]
  exact Ev.now _
theorem rloop (s : ByteArray) (hs : s.size ≤ 1073741824) : ∀ (c P B : Bs), L s = 47 :: (P ++ c ++ B) → (47 : UInt8) ∉ P → (47 : UInt8) ∉ c → (B = [] ∨ ∃ b, B = 47 :: b) →
    Ev (fun k => calepinref06_Parse.l0 k s ((P.length + 1 : Nat) : Int)) (rOut (match B with | [] => none | _ :: b => parts (P ++ c) b)) := by
  intro c
  induction c with
  | nil =>
    intro P B hL hP _ hB
    have hz : s.size = P.length + 1 + B.length := by rw [size_L, hL]; simp; omega
    refine Ev.k1 ?_
    rcases hB with rfl | ⟨b, rfl⟩
    · have g : ¬ ((P.length + 1 : Nat) : Int) < (s.size : Int) := by simp at hz; omega
      simp only [calepinref06_Parse.l0, g, if_false]
      exact Ev.now _
    · have hz' : s.size = P.length + 1 + (b.length + 1) := hz
      have g : ((P.length + 1 : Nat) : Int) < (s.size : Int) := by omega
      have g0 : (0 : Int) ≤ ((P.length + 1 : Nat) : Int) := by omega
      have g1 : (1 : Int) ≤ ((P.length + 1 : Nat) : Int) := by omega
      have g2 : ((P.length + 1 : Nat) : Int) ≤ (s.size : Int) := by omega
      have hb : bt s ((P.length + 1 : Nat) : Int) = 47 := by
        have := bt_app s (47 :: P) 47 b (by rw [hL]; simp)
        exact this
      have hx : s.extract 1 (P.length + 1) = ⟨P.toArray⟩ := eq_of_L (by rw [L_extract, hL]; simp)
      simp only [calepinref06_Parse.l0, g, g0, g1, g2, hb, if_true, Int.toNat_natCast, hx]
      have hPs : (⟨P.toArray⟩ : ByteArray).size ≤ 1073741824 := by rw [size_mk]; omega
      refine Ev.bind (refText_any ⟨P.toArray⟩ hPs) ?_
      rw [L_mk, List.append_nil]
      unfold parts
      rcases refOut_ok P with ⟨h1, h2⟩ | ⟨x, h1, h2⟩
      · rw [h1]
        simp only [h2, Bool.false_eq_true, if_false]
        exact Ev.now _
      · rw [h1, h2]
        have hw := wrap_succ (n := P.length + 1) (by omega)
        by_cases hb0 : b = []
        · have g3 : ((P.length + 1 + 1 : Nat) : Int) = (s.size : Int) := by rw [hb0] at hz'; simp at hz'; clear hw; omega
          simp only [if_true, hw, g3, hb0]
          exact Ev.now _
        · have hbl : b.length ≠ 0 := fun e => hb0 (List.eq_nil_of_length_eq_zero e)
          have g3 : ¬ ((P.length + 1 + 1 : Nat) : Int) = (s.size : Int) := by clear hw; omega
          have g4 : (0 : Int) ≤ ((P.length + 1 + 1 : Nat) : Int) := by clear hw; omega
          have g5 : ((P.length + 1 + 1 : Nat) : Int) ≤ (s.size : Int) := by clear hw; omega
          have hy : s.extract (P.length + 1 + 1) s.size = ⟨b.toArray⟩ := eq_of_L (by
            rw [L_to, hL]
            have e : (47 : UInt8) :: (P ++ [] ++ 47 :: b) = (47 :: P ++ [47]) ++ b := by simp
            have e2 : P.length + 1 + 1 = ((47 : UInt8) :: P ++ [47]).length := by simp
            rw [e, e2, List.drop_left])
          simp only [if_true, hw, g3, g4, g5, if_false, Int.toNat_natCast, hy, hb0]
          clear hw
          have hbs : (⟨b.toArray⟩ : ByteArray).size ≤ 1073741824 := by rw [size_mk]; omega
          refine Ev.bind (refText_any ⟨b.toArray⟩ hbs) ?_
          rw [L_mk]
          rcases refOut_ok b with ⟨k1, k2⟩ | ⟨y, k1, k2⟩
          · rw [k1]
            simp only [k2, Bool.false_eq_true, if_false]
            exact Ev.now _
          · rw [k1, k2]
            simp only [if_true]
            exact Ev.now _
  | cons x c ih =>
    intro P B hL hP hc hB
    simp only [List.mem_cons, not_or] at hc
    have hz : s.size = P.length + 1 + (c.length + 1) + B.length := by rw [size_L, hL]; simp; omega
    refine Ev.k1 ?_
    have g : ((P.length + 1 : Nat) : Int) < (s.size : Int) := by omega
    have g0 : (0 : Int) ≤ ((P.length + 1 : Nat) : Int) := by omega
    have hb : bt s ((P.length + 1 : Nat) : Int) = x.toNat := by
      have := bt_app s (47 :: P) x (c ++ B) (by rw [hL]; simp)
      exact this
    have e47 : ((x.toNat : Int) = 47) = (x = 47) := toNat_eq x 47
    have hx : ¬ x = 47 := Ne.symm hc.1
    have hw := wrap_succ (n := P.length + 1) (by omega)
    simp only [calepinref06_Parse.l0, g, g0, hb, e47, hx, if_true, if_false, hw]
    clear hw
    have hi := ih (P ++ [x]) B (by rw [hL]; simp) (by simp only [List.mem_append, List.mem_singleton, not_or]; exact ⟨hP, hc.1⟩) hc.2 hB
    have e1 : (P ++ [x]).length + 1 = P.length + 1 + 1 := by simp
    rw [e1] at hi
    have e2 : P ++ [x] ++ c = P ++ x :: c := by simp
    rw [e2] at hi
    exact hi
theorem rparse_any (s : ByteArray) (hs : s.size ≤ 1073741824) : Ev (fun k => calepinref06_Parse.f k s) (rOut (parseS (L s))) := by
  unfold calepinref06_Parse.f
  rw [By.toList_L s]
  by_cases h1 : L s = [47]
  · simp only [h1, if_true]
    exact Ev.now _
  · simp only [h1, if_false]
    cases hL : L s with
    | nil =>
      have g : (s.size : Int) = 0 := by rw [size_L, hL]; rfl
      simp only [g, if_true]
      rw [parseS_other (by simp) (by simp)]
      exact rparts_err s
    | cons c r =>
      have hz : s.size = r.length + 1 := by rw [size_L, hL]; rfl
      have g : ¬ (s.size : Int) = 0 := by omega
      have g0 : (0 : Int) < (s.size : Int) := by omega
      have hb : bt s 0 = c.toNat := bt_app s [] c r hL
      simp only [g, g0, if_true, if_false, hb]
      by_cases hc : c = 47
      · subst hc
        have hr : r ≠ [] := fun e => h1 (by rw [hL, e])
        rw [parseS_slash r hr]
        have e : ((((47 : UInt8).toNat : Int)) != 47) = false := rfl
        rw [e]
        refine Ev.k1 ?_
        simp only [calepinref06_Parse.j0, Bool.false_eq_true, if_false]
        by_cases h47 : (47 : UInt8) ∈ r
        · obtain ⟨a, b, hab, ha⟩ := List.eq_append_cons_of_mem h47
          have := rloop s hs a [] (47 :: b) (by rw [hL, hab]; rfl) (by simp) ha (.inr ⟨b, rfl⟩)
          rw [hab, cutAt_yes b ha]
          exact this
        · have := rloop s hs r [] [] (by rw [hL]; simp) (by simp) h47 (.inl rfl)
          rw [cutAt_no h47]
          exact this
      · rw [parseS_other (by rw [← hL]; exact h1) (by simpa using hc)]
        have e : ((c.toNat : Int) != 47) = true := by
          rw [bne_iff_ne]
          intro e
          apply hc
          have h : c.toNat = (47 : UInt8).toNat := by
            have : c.toNat = 47 := by omega
            exact this
          exact UInt8.toNat_inj.1 h
        rw [e]
        exact rparts_err s
end Go.Proofs.YtpifopiopgbbaaaDoor.Pf
