/- calepinlaw06.PathMakes, plain: what the printed law comes to is true. -/
import Derived.Test.YtpifopiopgbbaaaDoorBytesLaw
import Derived.Test.YtpifopiopgbbaaaDoorPfx7
namespace Go.Proofs.YtpifopiopgbbaaaDoor.Pf
open Go.RowKit Go.Proofs.YtpifopiopgbbaaaDoorW.PrintWords Pc
open By (L size_L L_mk mk_L L_inj L_extract L_to L_from wrap_in)
set_option linter.unusedSimpArgs false

theorem segL_cons (c : UInt8) (l : Bs) : segL (c :: l) = esc c ++ segL l := by simp [segL]
theorem bare_37 : bare 37 = false := by decide
theorem textL_segL : ∀ l : Bs, textL (segL l) = some l
  | [] => rfl
  | c :: l => by
    rw [segL_cons]
    unfold esc
    by_cases hb : bare c = true
    · have hc : ¬ c = 37 := by intro e; rw [e, bare_37] at hb; cases hb
      rw [if_pos hb]
      show textL (c :: segL l) = _
      rw [textL_cons c _ hc, if_pos hb, textL_segL l]; rfl
    · rw [if_neg hb]
      show textL (37 :: hU.getD (c.toNat / 16) 0 :: hU.getD (c.toNat % 16) 0 :: segL l) = _
      rw [textL_cons37, if_neg (hexb_dig dig_U c).2, textL_segL l, (hexb_dig dig_U c).1]; rfl
theorem segL_47 (l : Bs) : (47 : UInt8) ∉ segL l := by
  intro hm
  simp only [segL, List.mem_flatMap] at hm
  obtain ⟨c, _, hc⟩ := hm
  have := c.toNat_lt
  unfold esc at hc
  by_cases hb : bare c = true
  · rw [if_pos hb] at hc
    rw [← List.mem_singleton.1 hc, bare_47] at hb
    cases hb
  · rw [if_neg hb] at hc
    simp only [List.mem_cons, List.not_mem_nil, or_false] at hc
    rcases hc with hc | hc | hc
    · exact absurd hc (by decide)
    · exact dig_U.no (hc ▸ getD_mem_or hU _ (by rw [dig_U.len]; omega))
    · exact dig_U.no (hc ▸ getD_mem_or hU _ (by rw [dig_U.len]; omega))
theorem segL_ne {l : Bs} (h : l ≠ []) : segL l ≠ [] := by
  intro e
  have := textL_segL l
  rw [e] at this
  exact h (Option.some.inj this).symm
theorem ok_segL {l : Bs} (h : fitsB ⟨l.toArray⟩ = true) : okText (segL l) = some l := by
  unfold okText
  rw [textL_segL]
  simp only [h, if_true]
/-- What is made is parsed again. -/
theorem parse_of {a b p : Bs} (h : ofS a b = some p) : parseS p = some (a, b) := by
  unfold ofS at h
  by_cases h0 : a = [] ∧ b = []
  · rw [if_pos h0] at h
    rw [← Option.some.inj h, h0.1, h0.2]; rfl
  · rw [if_neg h0] at h
    by_cases hf : fitsB ⟨a.toArray⟩ = true
    · rw [if_pos hf] at h
      by_cases hb : b = []
      · rw [if_pos hb] at h
        rw [← Option.some.inj h, parseS_slash _ (by simp), cutAt_yes [] (segL_47 a)]
        show parts _ [] = _
        unfold parts
        rw [ok_segL hf, hb]; rfl
      · rw [if_neg hb] at h
        by_cases hg : fitsB ⟨b.toArray⟩ = true
        · rw [if_pos hg] at h
          rw [← Option.some.inj h, parseS_slash _ (by simp), cutAt_yes _ (segL_47 a)]
          show parts _ _ = _
          unfold parts
          rw [ok_segL hf, ok_segL hg]
          simp only [segL_ne hb, if_false]
        · rw [if_neg hg] at h; cases h
    · rw [if_neg hf] at h; cases h
theorem rseg_loop (s : ByteArray) (hs : s.size ≤ 1073741824) : ∀ (B A : Bs), L s = A ++ B → Ev (fun k => calepinref06_Segment.l0 k s ⟨(segL A).toArray⟩ (A.length : Int)) ⟨(segL (L s)).toArray⟩ := by
  intro B
  induction B with
  | nil =>
    intro A hA
    have hz : s.size = A.length := by rw [size_L, hA]; simp
    refine Ev.k1 ?_
    have g : ¬ (A.length : Int) < (s.size : Int) := by omega
    simp only [calepinref06_Segment.l0, g, if_false]
    have e : L s = A := by rw [hA]; simp
    rw [e]
    exact Ev.now _
  | cons c B ih =>
    intro A hA
    have hz : s.size = A.length + (B.length + 1) := by rw [size_L, hA]; simp
    refine Ev.k1 ?_
    have hc := c.toNat_lt
    have g : (A.length : Int) < (s.size : Int) := by omega
    have g0 : (0 : Int) ≤ (A.length : Int) := by omega
    have hb := bt_app s A c B hA
    have hl := segL_length A
    have hw := wrap_succ (n := A.length) (by omega)
    have hi := ih (A ++ [c]) (by rw [hA]; simp)
    have e1 : (A ++ [c]).length = A.length + 1 := by simp
    rw [e1, segL_snoc] at hi
    by_cases hbc : bare c = true
    · have g1 : (A.length : Int) ≤ ((A.length + 1 : Nat) : Int) := by clear hw; omega
      have g2 : ((A.length + 1 : Nat) : Int) ≤ (s.size : Int) := by clear hw; omega
      have hx : s.extract A.length (A.length + 1) = ⟨([c] : Bs).toArray⟩ := eq_of_L (by rw [L_extract, hA]; simp)
      have c3 : (⟨(segL A).toArray⟩ : ByteArray).size + (⟨([c] : Bs).toArray⟩ : ByteArray).size ≤ 9223372036854775807 := by
        rw [size_mk, size_mk]; simp only [List.length_cons, List.length_nil]; clear hw; omega
      simp only [calepinref06_Segment.l0, g, g0, hb, bare_f, hbc, if_true, Option.bind_some, hw, g1, g2, Int.toNat_natCast, hx, c3]
      clear hw
      rw [app_mk]
      have e2 : esc c = [c] := by unfold esc; rw [if_pos hbc]
      rw [e2] at hi
      exact hi
    · have a0 : (0 : Int) ≤ ((c.toNat / 16 : Nat) : Int) := by clear hw; omega
      have a1 : ((c.toNat / 16 : Nat) : Int) ≤ ((c.toNat / 16 + 1 : Nat) : Int) := by clear hw; omega
      have a2 : ((c.toNat / 16 + 1 : Nat) : Int) ≤ 16 := by clear hw; omega
      have b0 : (0 : Int) ≤ ((c.toNat % 16 : Nat) : Int) := by clear hw; omega
      have b1 : ((c.toNat % 16 : Nat) : Int) ≤ ((c.toNat % 16 + 1 : Nat) : Int) := by clear hw; omega
      have b2 : ((c.toNat % 16 + 1 : Nat) : Int) ≤ 16 := by clear hw; omega
      have x1 : (⟨#[48, 49, 50, 51, 52, 53, 54, 55, 56, 57, 65, 66, 67, 68, 69, 70]⟩ : ByteArray).extract (c.toNat / 16) (c.toNat / 16 + 1) = ⟨([dig (c.toNat / 16)] : Bs).toArray⟩ := extract_one hU (c.toNat / 16) (by rw [dig_U.len]; clear hw; omega)
      have x2 : (⟨#[48, 49, 50, 51, 52, 53, 54, 55, 56, 57, 65, 66, 67, 68, 69, 70]⟩ : ByteArray).extract (c.toNat % 16) (c.toNat % 16 + 1) = ⟨([dig (c.toNat % 16)] : Bs).toArray⟩ := extract_one hU (c.toNat % 16) (by rw [dig_U.len]; clear hw; omega)
      have e37 : (⟨#[37]⟩ : ByteArray) = ⟨([37] : Bs).toArray⟩ := rfl
      have c1 : 1 + (⟨([dig (c.toNat / 16)] : Bs).toArray⟩ : ByteArray).size ≤ 9223372036854775807 := by rw [size_mk]; show 1 + 1 ≤ 9223372036854775807; decide
      have c2 : ((⟨#[37]⟩ : ByteArray) ++ (⟨([dig (c.toNat / 16)] : Bs).toArray⟩ : ByteArray)).size + (⟨([dig (c.toNat % 16)] : Bs).toArray⟩ : ByteArray).size ≤ 9223372036854775807 := by
        rw [e37, app_mk, size_mk, size_mk]; show 2 + 1 ≤ 9223372036854775807; decide
      have c3 : (⟨(segL A).toArray⟩ : ByteArray).size + (((⟨#[37]⟩ : ByteArray) ++ (⟨([dig (c.toNat / 16)] : Bs).toArray⟩ : ByteArray)) ++ (⟨([dig (c.toNat % 16)] : Bs).toArray⟩ : ByteArray)).size ≤ 9223372036854775807 := by
        rw [e37, app_mk, app_mk, size_mk, size_mk]
        simp only [List.length_append, List.length_cons, List.length_nil]
        clear hw; omega
      have hbf : bare c = false := by simpa using hbc
      simp only [calepinref06_Segment.l0, g, g0, hb, bare_f, hbf, Bool.false_eq_true, if_false, if_true, Option.bind_some, tdiv16, tmod16, div_up, mod_up, a0, a1, a2, b0, b1, b2, Int.toNat_natCast, x1, x2, c1, c2, c3, hw]
      clear hw
      rw [e37, app_mk, app_mk, app_mk]
      have e2 : esc c = [37] ++ [dig (c.toNat / 16)] ++ [dig (c.toNat % 16)] := by unfold esc; rw [if_neg hbc]; rfl
      rw [e2] at hi
      exact hi
theorem rseg_any (s : ByteArray) (hs : s.size ≤ 1073741824) : Ev (fun k => calepinref06_Segment.f k s) ⟨(segL (L s)).toArray⟩ := rseg_loop s hs (L s) [] rfl
def roOut : Option Bs → ByteArray × Bool
  | some p => (⟨p.toArray⟩, true)
  | none => (⟨#[]⟩, false)
theorem fits_nil : fitsB ⟨#[]⟩ = false := by
  rw [fitsB_eq _ (by decide)]
  split
  · rfl
  · rfl
theorem rof_any (a b : ByteArray) (ha : a.size ≤ 1073741824) (hb : b.size ≤ 1073741824) : Ev (fun k => calepinref06_Of.f k a b) (roOut (ofS (L a) (L b))) := by
  unfold calepinref06_Of.f
  have ea : ((a.size : Int) = 0) = (L a = []) := propext ⟨fun h => List.eq_nil_of_length_eq_zero (by rw [← size_L]; omega), fun h => by rw [size_L, h]; rfl⟩
  have eb : ((b.size : Int) == 0) = decide (L b = []) := by
    by_cases h : L b = []
    · rw [decide_eq_true h, size_L, h]; rfl
    · rw [decide_eq_false h, beq_eq_false_iff_ne]
      intro e
      exact h (List.eq_nil_of_length_eq_zero (by rw [← size_L]; omega))
  have err : Ev (fun k => calepinref06_Of.j1 k a b true) (roOut none) := by
    refine Ev.k1 ?_
    simp only [calepinref06_Of.j1, if_true]
    exact Ev.now _
  have good : Ev (fun k => calepinref06_Of.j1 k a b false) (⟨(47 :: (segL (L a) ++ 47 :: segL (L b))).toArray⟩, true) := by
    refine Ev.k1 ?_
    simp only [calepinref06_Of.j1, Bool.false_eq_true, if_false]
    refine Ev.bind (rseg_any a ha) ?_
    have la := segL_length (L a)
    have lb := segL_length (L b)
    rw [← size_L] at la lb
    have e0 : (⟨#[47]⟩ : ByteArray) = ⟨([47] : Bs).toArray⟩ := rfl
    have g1 : 1 + (⟨(segL (L a)).toArray⟩ : ByteArray).size ≤ 9223372036854775807 := by rw [size_mk]; omega
    have g2 : ((⟨#[47]⟩ : ByteArray) ++ (⟨(segL (L a)).toArray⟩ : ByteArray)).size + 1 ≤ 9223372036854775807 := by
      rw [ByteArray.size_append, size_lit1, size_mk]; omega
    have g3 : (((⟨#[47]⟩ : ByteArray) ++ (⟨(segL (L a)).toArray⟩ : ByteArray)) ++ (⟨#[47]⟩ : ByteArray)).size + (⟨(segL (L b)).toArray⟩ : ByteArray).size ≤ 9223372036854775807 := by
      rw [ByteArray.size_append, ByteArray.size_append, size_lit1, size_mk, size_mk]; omega
    simp only [g1, g2, if_true]
    refine Ev.bind (rseg_any b hb) ?_
    simp only [g3, if_true]
    rw [e0, app_mk, app_mk, app_mk]
    have e : [47] ++ segL (L a) ++ [47] ++ segL (L b) = 47 :: (segL (L a) ++ 47 :: segL (L b)) := by simp
    rw [e]
    exact Ev.now _
  have rest : ¬ (L a = [] ∧ L b = []) → Ev (fun k => calepinref06_Of.j0 k a b false) (roOut (ofS (L a) (L b))) := by
    intro h0
    refine Ev.k1 ?_
    simp only [calepinref06_Of.j0, Bool.false_eq_true, if_false]
    refine Ev.bind (refFits_any a (by omega)) ?_
    unfold ofS
    rw [if_neg h0, mk_L, mk_L]
    by_cases hf : fitsB a = true
    · simp only [hf, if_true]
      by_cases hb0 : L b = []
      · have g : ¬ (b.size : Int) > 0 := by rw [size_L, hb0]; decide
        simp only [g, if_false]
        rw [if_pos hb0]
        have := good
        rw [hb0] at this
        exact this
      · have g : (b.size : Int) > 0 := by
          have : b.size ≠ 0 := fun e => hb0 (List.eq_nil_of_length_eq_zero (by rw [← size_L]; exact e))
          omega
        simp only [g, if_true]
        rw [if_neg hb0]
        refine Ev.bind (refFits_any b (by omega)) ?_
        by_cases hg : fitsB b = true
        · rw [hg]
          exact good
        · have hg' : fitsB b = false := by simpa using hg
          rw [hg']
          exact err
    · simp only [hf, Bool.false_eq_true, if_false]
      exact err
  simp only [ea, eb]
  by_cases h0 : L a = []
  · simp only [if_pos h0]
    by_cases h1 : L b = []
    · rw [decide_eq_true h1]
      refine Ev.k1 ?_
      simp only [calepinref06_Of.j0, if_true]
      unfold ofS
      rw [if_pos ⟨h0, h1⟩]
      exact Ev.now _
    · rw [decide_eq_false h1]
      exact rest (fun e => h1 e.2)
  · simp only [if_neg h0]
    exact rest (fun e => h0 e.1)
theorem makes_j0 (a b : ByteArray) (ha : a.size ≤ 1073741824) (hb : b.size ≤ 1073741824) (hab : a.size + b.size ≤ 100000000) : Ev (fun k => calepinlaw06_PathMakes.j0 k a b false) true := by
  refine Ev.k1 ?_
  simp only [calepinlaw06_PathMakes.j0, Bool.false_eq_true, if_false]
  refine Ev.bind (of_any a b ha hb) ?_
  refine Ev.bind (rof_any a b ha hb) ?_
  cases ho : ofS (L a) (L b) with
  | none =>
    have q : ((⟨#[]⟩ : ByteArray).toList == ([] : List UInt8)) = true := by rw [By.toList_L]; rfl
    simp only [oOut, roOut, Bool.false_eq_true, if_false, if_true, q]
    exact Ev.now _
  | some p =>
    have hp : p.length ≤ 1073741824 := by
      unfold ofS at ho
      have la := segL_length (L a)
      have lb := segL_length (L b)
      rw [← size_L] at la lb
      split at ho
      · rw [← Option.some.inj ho]; simp
      · split at ho
        · split at ho
          · rw [← Option.some.inj ho]; simp only [List.length_cons, List.length_append, List.length_nil]; omega
          · split at ho
            · rw [← Option.some.inj ho]; simp only [List.length_cons, List.length_append]; omega
            · cases ho
        · cases ho
    have h2 := parse_any (⟨p.toArray⟩ : ByteArray) (by rw [size_mk]; exact hp)
    rw [L_mk, parse_of ho] at h2
    simp only [oOut, roOut, if_true]
    refine Ev.bind h2 ?_
    have q1 : (⟨(L a).toArray⟩ : ByteArray) = a := mk_L a
    have q2 : (⟨(L b).toArray⟩ : ByteArray) = b := mk_L b
    simp only [pOut, q1, q2, if_true, beq_self_eq_true]
    exact Ev.now _
theorem makes_any (a b : ByteArray) (hab : a.size + b.size ≤ 100000000) : ∃ k, calepinlaw06_PathMakes.f k a b = some true := by
  refine Ev.rounds ?_
  unfold calepinlaw06_PathMakes.f
  refine Ev.bind first_any ?_
  simp only [if_true, seg_f a (by omega), Option.bind_some]
  refine Ev.bind (refFits_any a (by omega)) ?_
  have hj := makes_j0 a b (by omega) (by omega) hab
  by_cases hf : fitsB a = true
  · have q : ((true != ((0 : Int) == 0)) : Bool) = false := rfl
    simp only [hf, if_true, q, Bool.false_eq_true, if_false]
    refine Ev.bind (rseg_any a (by omega)) ?_
    simp only [if_true]
    exact hj
  · have hf' : fitsB a = false := by simpa using hf
    have q : ((false != ((60 : Int) == 0)) : Bool) = false := rfl
    have q2 : ¬ ((60 : Int) = 0) := by decide
    have q3 : ((⟨#[]⟩ : ByteArray).toList != ([] : List UInt8)) = false := by rw [By.toList_L]; rfl
    simp only [hf', Bool.false_eq_true, if_false, q, q2, if_true, q3]
    exact hj
end Go.Proofs.YtpifopiopgbbaaaDoor.Pf
