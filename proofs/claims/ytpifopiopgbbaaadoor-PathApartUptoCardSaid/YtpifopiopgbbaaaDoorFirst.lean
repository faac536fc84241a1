/- path.Of, plain; what the laws ask first; calepinlaw06.PathReads. -/
import Derived.Test.YtpifopiopgbbaaaDoorReadsLaw
namespace Go.Proofs.YtpifopiopgbbaaaDoor.Pf
open Go.RowKit Go.Proofs.YtpifopiopgbbaaaDoorW.PrintWords Pc
open By (L size_L L_mk mk_L L_inj L_extract L_to L_from wrap_in)
set_option linter.unusedSimpArgs false

def ofS (a b : Bs) : Option Bs :=
  if a = [] ∧ b = [] then some [47]
  else if fitsB ⟨a.toArray⟩ = true then (if b = [] then some (47 :: (segL a ++ [47])) else if fitsB ⟨b.toArray⟩ = true then some (47 :: (segL a ++ 47 :: segL b)) else none)
  else none
def oOut : Option Bs → ByteArray × Int
  | some p => (⟨p.toArray⟩, 0)
  | none => (⟨#[]⟩, 60)
theorem seg_f (s : ByteArray) (h : s.size ≤ 1073741824) : path_Segment.f s = some (if fitsB s = true then (⟨(segL (L s)).toArray⟩, 0) else (⟨#[]⟩, 60)) := by
  unfold path_Segment.f segOut
  rw [if_pos h]
theorem app_mk (a b : Bs) : (⟨a.toArray⟩ : ByteArray) ++ (⟨b.toArray⟩ : ByteArray) = ⟨(a ++ b).toArray⟩ := eq_of_L (by rw [By.L_append, L_mk, L_mk])
theorem of_any (a b : ByteArray) (ha : a.size ≤ 1073741824) (hb : b.size ≤ 1073741824) : Ev (fun k => path_Of.f k a b) (oOut (ofS (L a) (L b))) := by
  unfold path_Of.f
  rw [By.toList_L a, By.toList_L b]
  have hr : Ev (fun k => path_Of.j0 k a b false) (oOut (if fitsB a = true then (if L b = [] then some (47 :: (segL (L a) ++ [47])) else if fitsB b = true then some (47 :: (segL (L a) ++ 47 :: segL (L b))) else none) else none)) := by
    refine Ev.k1 ?_
    simp only [path_Of.j0, Bool.false_eq_true, if_false, seg_f a ha, seg_f b hb, Option.bind_some]
    by_cases hf : fitsB a = true
    · simp only [hf, if_true, By.toList_L b]
      have la := segL_length (L a)
      have lb := segL_length (L b)
      rw [← size_L] at la lb
      have g1 : 1 + (segL (L a)).length ≤ 9223372036854775807 := by omega
      have g2 : ((⟨#[47]⟩ : ByteArray) ++ (⟨(segL (L a)).toArray⟩ : ByteArray)).size + 1 ≤ 9223372036854775807 := by
        rw [ByteArray.size_append, size_lit1, size_mk]; omega
      have e0 : (⟨#[47]⟩ : ByteArray) = ⟨([47] : Bs).toArray⟩ := rfl
      by_cases hb0 : L b = []
      · simp only [hb0, if_true, size_mk, g1, g2]
        rw [e0, app_mk, app_mk]
        exact Ev.now _
      · simp only [hb0, if_false]
        by_cases hg : fitsB b = true
        · have g3 : (((⟨#[47]⟩ : ByteArray) ++ (⟨(segL (L a)).toArray⟩ : ByteArray)) ++ (⟨#[47]⟩ : ByteArray)).size + (segL (L b)).length ≤ 9223372036854775807 := by
            rw [ByteArray.size_append, ByteArray.size_append, size_lit1, size_mk]; omega
          simp only [hg, if_true, size_mk, g1, g2, g3]
          rw [e0, app_mk, app_mk, app_mk]
          have e : [47] ++ segL (L a) ++ [47] ++ segL (L b) = 47 :: (segL (L a) ++ 47 :: segL (L b)) := by simp
          rw [e]
          exact Ev.now _
        · have : ¬ ((60 : Int) = 0) := by decide
          simp only [hg, Bool.false_eq_true, if_false, this]
          exact Ev.now _
    · have : ¬ ((60 : Int) = 0) := by decide
      simp only [hf, Bool.false_eq_true, if_false, this]
      exact Ev.now _
  by_cases h0 : L a = []
  · simp only [if_pos h0]
    by_cases h1 : L b = []
    · have e : (L b == ([] : List UInt8)) = true := by rw [h1]; rfl
      rw [e]
      refine Ev.k1 ?_
      simp only [path_Of.j0, if_true, path_Root.f, Option.bind_some]
      unfold ofS
      rw [if_pos ⟨h0, h1⟩]
      exact Ev.now _
    · have e : (L b == ([] : List UInt8)) = false := beq_eq_false_iff_ne.2 h1
      rw [e]
      unfold ofS
      rw [if_neg (fun e => h1 e.2), mk_L, mk_L]
      exact hr
  · simp only [h0, if_false]
    unfold ofS
    rw [if_neg (fun e => h0 e.1), mk_L, mk_L]
    exact hr
theorem fits_c (s : ByteArray) (hs : s.size ≤ 9223372036854775807) (hv : Pa.valid s = true) (h1 : 0 < s.size ∧ s.size < 65) (h2 : L s ≠ [46] ∧ L s ≠ [46, 46]) : fitsB s = true := by
  rw [fitsB_eq s hs, if_pos hv, if_pos (by omega), if_pos (by omega), By.toList_L, if_neg h2.1]
  exact bne_iff_ne.2 h2.2
theorem fits_ab : fitsB ⟨([97, 32, 98] : Bs).toArray⟩ = true := fits_c _ (by decide) (by kernel_rfl) (by decide) (by decide)
theorem fits_xy : fitsB ⟨([120, 47, 121] : Bs).toArray⟩ = true := fits_c _ (by decide) (by kernel_rfl) (by decide) (by decide)
def p0 : Bs := [47, 97, 37, 50, 48, 98, 47, 120, 37, 50, 70, 121]
theorem of_p0 : ofS [97, 32, 98] [120, 47, 121] = some p0 := by
  unfold ofS
  rw [if_neg (by simp), if_pos fits_ab, if_neg (by simp), if_pos fits_xy]
  exact congrArg some (by kernel_rfl)
theorem parse_p0 : parseS p0 = some ([97, 32, 98], [120, 47, 121]) := by
  unfold p0
  rw [parseS_slash _ (by simp)]
  have e : cutAt [97, 37, 50, 48, 98, 47, 120, 37, 50, 70, 121] = some ([97, 37, 50, 48, 98], [120, 37, 50, 70, 121]) := by decide
  rw [e]
  have t1 : textL [97, 37, 50, 48, 98] = some [97, 32, 98] := by kernel_rfl
  have t2 : textL [120, 37, 50, 70, 121] = some [120, 47, 121] := by kernel_rfl
  have o1 : okText [97, 37, 50, 48, 98] = some [97, 32, 98] := by unfold okText; rw [t1]; simp only [fits_ab, if_true]
  have o2 : okText [120, 37, 50, 70, 121] = some [120, 47, 121] := by unfold okText; rw [t2]; simp only [fits_xy, if_true]
  show parts _ _ = _
  unfold parts
  rw [o1, o2]
  rfl
theorem parse_a : parseS [47, 97] = none := by
  rw [parseS_slash _ (by simp)]
  rfl
theorem first_any : Ev (fun k => calepinlaw06_first.f k) true := by
  unfold calepinlaw06_first.f
  have h1 := of_any (⟨#[97, 32, 98]⟩ : ByteArray) (⟨#[120, 47, 121]⟩ : ByteArray) (by decide) (by decide)
  have e1 : oOut (ofS (L (⟨#[97, 32, 98]⟩ : ByteArray)) (L (⟨#[120, 47, 121]⟩ : ByteArray))) = (⟨p0.toArray⟩, 0) := by
    show oOut (ofS [97, 32, 98] [120, 47, 121]) = _
    rw [of_p0]; rfl
  rw [e1] at h1
  refine Ev.bind h1 ?_
  have h2 := parse_any (⟨p0.toArray⟩ : ByteArray) (by decide)
  rw [L_mk, parse_p0] at h2
  refine Ev.bind h2 ?_
  have h3 := parse_any (⟨#[47, 97]⟩ : ByteArray) (by decide)
  have e3 : L (⟨#[47, 97]⟩ : ByteArray) = [47, 97] := rfl
  rw [e3, parse_a] at h3
  refine Ev.bind h3 ?_
  have q1 : (⟨p0.toArray⟩ : ByteArray).toList = [47, 97, 37, 50, 48, 98, 47, 120, 37, 50, 70, 121] := by rw [By.toList_L, L_mk, p0]
  have q2 : (⟨([97, 32, 98] : Bs).toArray⟩ : ByteArray).toList = [97, 32, 98] := by rw [By.toList_L, L_mk]
  have q3 : (⟨([120, 47, 121] : Bs).toArray⟩ : ByteArray).toList = [120, 47, 121] := by rw [By.toList_L, L_mk]
  have q4 : ((⟨#[47]⟩ : ByteArray).toList == ([47] : List UInt8)) = true := by rw [By.toList_L]; rfl
  simp only [pOut, q1, q2, q3, if_true, path_Root.f, Option.bind_some, q4]
  exact Ev.now _
theorem reads_any (s : ByteArray) (hs : s.size ≤ 1073741824) : ∃ k, calepinlaw06_PathReads.f k s = some true := by
  refine Ev.rounds ?_
  unfold calepinlaw06_PathReads.f
  refine Ev.bind first_any ?_
  simp only [if_true]
  refine Ev.bind (parse_any s hs) ?_
  refine Ev.bind (rparse_any s hs) ?_
  cases parseS (L s) with
  | none =>
    have q : (⟨#[]⟩ : ByteArray).toList = [] := By.toList_L _
    simp only [rOut, pOut, Bool.false_eq_true, if_false, if_true, q]
    exact Ev.now _
  | some p =>
    simp only [rOut, pOut, if_true, beq_self_eq_true]
    exact Ev.now _
end Go.Proofs.YtpifopiopgbbaaaDoor.Pf
