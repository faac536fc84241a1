/- calepinlaw02.FoldReads, plain: what the printed law comes to is true, at every text of at most 1048577 bytes. -/
import Derived.Test.YtpjidedgifjgeaaDoorUnfRef
import Derived.Test.YtpjidedgifjgeaaDoorPfx3
namespace Go.Proofs.YtpjidedgifjgeaaDoor.Pf
open Go.RowKit Go.Proofs.YtpjidedgifjgeaaDoorW.PrintWords Un
open By (L size_L L_mk mk_L L_inj L_extract L_to L_from wrap_in)
open Ch (Bs)

theorem toList_mk (l : Bs) : (⟨l.toArray⟩ : ByteArray).toList = l := by rw [By.toList_L, L_mk]
set_option maxRecDepth 100000 in
theorem first_any : Ev (fun k => calepinlaw02_first.f k) true := by
  unfold calepinlaw02_first.f
  have h1 := unfold_any (⟨#[65, 58, 49, 13, 10, 32, 50, 10, 66, 58, 10]⟩ : ByteArray) (by decide)
  have h2 := unfold_any (⟨#[32, 65, 10]⟩ : ByteArray) (by decide)
  have e1 : outF (unfold (L (⟨#[65, 58, 49, 13, 10, 32, 50, 10, 66, 58, 10]⟩ : ByteArray))) = ([⟨#[65, 58, 49, 50]⟩, ⟨#[66, 58]⟩], 0) := by rfl
  have e2 : outF (unfold (L (⟨#[32, 65, 10]⟩ : ByteArray))) = ([], 20) := by rfl
  rw [e1] at h1
  rw [e2] at h2
  refine Ev.bind h1 (Ev.bind h2 ?_)
  have e3 : fold_Fold.f [(⟨#[97, 98]⟩ : ByteArray)] = some ⟨#[97, 98, 13, 10]⟩ := by rfl
  have t1 : (⟨#[65, 58, 49, 50]⟩ : ByteArray).toList = [65, 58, 49, 50] := toList_mk _
  have t2 : (⟨#[66, 58]⟩ : ByteArray).toList = [66, 58] := toList_mk _
  have t3 : (⟨#[97, 98, 13, 10]⟩ : ByteArray).toList = [97, 98, 13, 10] := toList_mk _
  have r0 : rdOf ByteArray.empty [(⟨#[65, 58, 49, 50]⟩ : ByteArray), ⟨#[66, 58]⟩] 0 = ⟨#[65, 58, 49, 50]⟩ := rfl
  have r1 : rdOf ByteArray.empty [(⟨#[65, 58, 49, 50]⟩ : ByteArray), ⟨#[66, 58]⟩] 1 = ⟨#[66, 58]⟩ := rfl
  simp [e3, t1, t2, t3, r0, r1]
  exact Ev.now _
/-- The lines are compared, one by one. -/
theorem same_l0 (xs : List ByteArray) (hn : xs.length ≤ 1073741824) : ∀ (d i : Nat), xs.length - i = d → i ≤ xs.length → Ev (fun k => calepinlaw02_FoldReads.l0 k xs xs (xs.length : Int) (i : Int)) true := by
  intro d
  induction d with
  | zero =>
    intro i hd hi
    obtain rfl : i = xs.length := by omega
    refine Ev.k1 ?_
    have g : ¬ ((xs.length : Int) < (xs.length : Int)) := by omega
    simp only [calepinlaw02_FoldReads.l0, g, if_false]
    exact Ev.now _
  | succ d ih =>
    intro i hd hi
    refine Ev.k1 ?_
    have g : (i : Int) < (xs.length : Int) := by omega
    have g0 : (0 : Int) ≤ (i : Int) := by omega
    simp only [calepinlaw02_FoldReads.l0, g, g0, if_true, wrap_succ (n := i) (by omega)]
    exact ih (i + 1) (by omega) (by omega)
theorem reads_any (t : ByteArray) (h : t.size ≤ 1048577) : ∃ k, calepinlaw02_FoldReads.f k t = some true := by
  refine Ev.rounds ?_
  unfold calepinlaw02_FoldReads.f
  refine Ev.bind first_any ?_
  simp only [if_true]
  refine Ev.bind (unfold_any t (by omega)) (Ev.bind (ref_any t h) ?_)
  have hinv := unf_inv ((L t).length + 1) (L t) []
  cases hu : unfold (L t) with
  | none =>
    simp only [outF, outR, Bool.false_eq_true, if_false, if_true, List.length_nil]
    exact Ev.now _
  | some ls =>
    have hw := (hinv ls hu (by simp)).2
    have hl := weight_length ls
    have hs := size_L t
    have hwn : weight [] = 0 := rfl
    simp only [outF, outR, if_true]
    refine Ev.k1 ?_
    have hb : (((ls.map fun l => (⟨l.toArray⟩ : ByteArray)).length : Int) != ((ls.map fun l => (⟨l.toArray⟩ : ByteArray)).length : Int)) = false := by simp
    simp only [calepinlaw02_FoldReads.j0, hb, Bool.false_eq_true, if_false]
    exact same_l0 _ (by rw [List.length_map]; omega) _ 0 rfl (by omega)
end Go.Proofs.YtpjidedgifjgeaaDoor.Pf
