/- calepinlaw02.FoldAgain, plain: what the printed law comes to is true, at every text of at most 2^30 bytes. -/
import Derived.Test.YtpjidedgifjgeaaDoorFolds
import Derived.Test.YtpjidedgifjgeaaDoorPfx7
namespace Go.Proofs.YtpjidedgifjgeaaDoor.Pf
open Go.RowKit Go.Proofs.YtpjidedgifjgeaaDoorW.PrintWords Un
open By (L size_L L_mk mk_L L_inj L_extract L_to L_from L_append wrap_in)
open Ch (Bs)

abbrev mks (ls : List Bs) : List ByteArray := ls.map fun l => ⟨l.toArray⟩
theorem mks_L (ls : List Bs) : (mks ls).map L = ls := by
  unfold mks
  rw [List.map_map]
  conv => rhs; rw [← List.map_id ls]
  exact List.map_congr_left fun l _ => L_mk l
theorem fold_mks (ls : List Bs) (h : weight ls ≤ 1073741824) : fold_Fold.f (mks ls) = some ⟨(Ch.foldAll ls).toArray⟩ := by
  unfold fold_Fold.f
  have hr : foldRoom (mks ls) := by
    unfold foldRoom mks
    rw [List.map_map, List.length_map]
    have : (ls.map ((fun s : ByteArray => s.size) ∘ fun l => (⟨l.toArray⟩ : ByteArray))) = ls.map (·.length) := List.map_congr_left fun l _ => size_mk l
    rw [this]
    exact h
  rw [if_pos hr, mks_L]
theorem foldAll_weight (ls : List Bs) : (Ch.foldAll ls).length ≤ 4 * weight ls := by
  have := Ch.foldAll_length ls
  unfold weight
  omega
theorem unfold_fold (ls : List Bs) (hg : ∀ l ∈ ls, Un.Good l) (h : weight ls ≤ 200000000) : Ev (fun k => fold_Unfold.f k (⟨(Ch.foldAll ls).toArray⟩ : ByteArray)) (mks ls, 0) := by
  have hw := foldAll_weight ls
  have := unfold_any (⟨(Ch.foldAll ls).toArray⟩ : ByteArray) (by rw [size_mk]; omega)
  rw [L_mk] at this
  have e : unfold (Ch.foldAll ls) = some ls := by
    have := unfT_foldAll ls [] hg
    simpa [unfT, unfold] using this
  rw [e] at this
  exact this
theorem rdOf_mks (ls : List Bs) (i : Nat) (h : i < ls.length) : rdOf ByteArray.empty (mks ls) (i : Int) = ⟨ls[i].toArray⟩ := by
  unfold rdOf mks
  rw [Int.toNat_natCast, List.getD_eq_getElem?_getD, List.getElem?_map, List.getElem?_eq_getElem h]
  rfl
theorem again_l0 (ls : List Bs) (hg : ∀ l ∈ ls, Un.Good l) (hn : weight ls ≤ 200000000) : ∀ (d i : Nat), ls.length - i = d → i ≤ ls.length → Ev (fun k => calepinlaw02_FoldAgain.l0 k (mks ls) (mks ls) (ls.length : Int) (i : Int)) true := by
  have hwl := weight_length ls
  have hml : (mks ls).length = ls.length := List.length_map ..
  intro d
  induction d with
  | zero =>
    intro i hd hi
    obtain rfl : i = ls.length := by omega
    refine Ev.k1 ?_
    have g : ¬ ((ls.length : Int) < (ls.length : Int)) := by omega
    simp only [calepinlaw02_FoldAgain.l0, g, if_false]
    exact Ev.now _
  | succ d ih =>
    intro i hd hi
    refine Ev.k1 ?_
    have hlt : i < ls.length := by omega
    have g : (i : Int) < (ls.length : Int) := by omega
    have g0 : (0 : Int) ≤ (i : Int) := by omega
    have hgd := hg ls[i] (List.getElem_mem hlt)
    have hsz : ls[i].length ≤ weight ls := by
      have : (ls.map (·.length)).sum ≤ weight ls := by unfold weight; omega
      have h2 : ls[i].length ≤ (ls.map (·.length)).sum := by
        clear hgd hg hn hwl hml hd hi ih g g0 this
        induction ls generalizing i with
        | nil => simp at hlt
        | cons x r ih =>
          cases i with
          | zero => simp
          | succ i => simp only [List.getElem_cons_succ, List.map_cons, List.sum_cons]; have := ih i (by simpa using hlt); omega
      omega
    have hG : fold_Good.f (⟨ls[i].toArray⟩ : ByteArray) = some true := by
      rw [foldGood_any _ (by rw [size_mk]; omega), L_mk]
      simp [hgd]
    simp only [calepinlaw02_FoldAgain.l0, hml, g, g0, if_true, rdOf_mks ls i hlt, hG, Option.bind_some, wrap_succ (n := i) (by omega)]
    exact ih (i + 1) (by omega) (by omega)
theorem again_any (t : ByteArray) (h : t.size ≤ 1073741824) : ∃ k, calepinlaw02_FoldAgain.f k t = some true := by
  refine Ev.rounds ?_
  unfold calepinlaw02_FoldAgain.f
  refine Ev.bind first_any ?_
  simp only [if_true]
  have hj : ∀ (xs : List ByteArray), Ev (fun k => calepinlaw02_FoldAgain.j0 k xs true) true := by
    intro xs
    refine Ev.k1 ?_
    simp only [calepinlaw02_FoldAgain.j0, if_true]
    exact Ev.now _
  refine Ev.bind (unfold_any t h) ?_
  have hinv := unf_inv ((L t).length + 1) (L t) []
  cases hu : unfold (L t) with
  | none =>
    have : ¬ ((20 : Int) = 0) := by decide
    simp only [outF, this, if_false]
    exact hj _
  | some ls =>
    obtain ⟨hg, hw⟩ := hinv ls hu (by simp)
    have hs := size_L t
    have hwn : weight [] = 0 := rfl
    simp only [outF, if_true]
    by_cases hbig : (t.size : Int) > 5000
    · simp only [hbig, decide_true]
      exact hj _
    · simp only [hbig, decide_false]
      refine Ev.k1 ?_
      simp only [calepinlaw02_FoldAgain.j0, Bool.false_eq_true, if_false]
      have hww : weight ls ≤ 5000 := by omega
      rw [show (ls.map fun l => (⟨l.toArray⟩ : ByteArray)) = mks ls from rfl]
      rw [fold_mks ls (by omega)]
      simp only [Option.bind_some]
      refine Ev.bind (unfold_fold ls hg (by omega)) ?_
      simp only [if_true]
      rw [fold_mks ls (by omega)]
      have hne : ((⟨(Ch.foldAll ls).toArray⟩ : ByteArray).toList != (⟨(Ch.foldAll ls).toArray⟩ : ByteArray).toList) = false := by simp
      simp only [Option.bind_some, hne]
      refine Ev.k1 ?_
      simp only [calepinlaw02_FoldAgain.j1, Bool.false_eq_true, if_false]
      have := again_l0 ls hg (by omega) ls.length 0 (by omega) (by omega)
      rw [show ((mks ls).length : Int) = ls.length from by rw [List.length_map]]
      exact this
end Go.Proofs.YtpjidedgifjgeaaDoor.Pf
