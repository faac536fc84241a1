/- calepinlaw02.FoldWrites, plain: what the printed law comes to is true, at every list of lines. -/
import Derived.Test.YtpjidedgifjgeaaDoorAgain
import Derived.Test.YtpjidedgifjgeaaDoorPfx6
namespace Go.Proofs.YtpjidedgifjgeaaDoor.Pf
open Go.RowKit Go.Proofs.YtpjidedgifjgeaaDoorW.PrintWords Un
open By (L size_L L_mk mk_L L_inj L_extract L_to L_from L_append wrap_in)
open Ch (Bs)

theorem writes_l1 (lines : List ByteArray) (hn : lines.length ≤ 1073741824) : ∀ (d i : Nat), lines.length - i = d → i ≤ lines.length → Ev (fun k => calepinlaw02_FoldWrites.l1 k lines lines (lines.length : Int) (i : Int)) true := by
  intro d
  induction d with
  | zero =>
    intro i hd hi
    obtain rfl : i = lines.length := by omega
    refine Ev.k1 ?_
    have g : ¬ ((lines.length : Int) < (lines.length : Int)) := by omega
    simp only [calepinlaw02_FoldWrites.l1, g, if_false]
    exact Ev.now _
  | succ d ih =>
    intro i hd hi
    refine Ev.k1 ?_
    have g : (i : Int) < (lines.length : Int) := by omega
    have g0 : (0 : Int) ≤ (i : Int) := by omega
    simp only [calepinlaw02_FoldWrites.l1, g, g0, if_true, wrap_succ (n := i) (by omega)]
    exact ih (i + 1) (by omega) (by omega)
def GoodAll (ls : List Bs) : Prop := ∀ l ∈ ls, Un.Good l
instance (ls : List Bs) : Decidable (GoodAll ls) := inferInstanceAs (Decidable (∀ l ∈ ls, Un.Good l))
theorem goodAll_snoc (ls : List Bs) (l : Bs) : GoodAll (ls ++ [l]) ↔ GoodAll ls ∧ Un.Good l := by
  unfold GoodAll
  constructor
  · exact fun h => ⟨fun x hx => h x (by simp [hx]), h l (by simp)⟩
  · rintro ⟨h1, h2⟩ x hx
    rcases List.mem_append.1 hx with h | h
    · exact h1 x h
    · obtain rfl := List.mem_singleton.1 h; exact h2
theorem weight_take (lines : List ByteArray) (i : Nat) (hs : ∀ j (h : j < lines.length), j < i → lines[j].size ≤ 3000) : weight ((lines.take i).map L) ≤ 3001 * i := by
  induction i with
  | zero => simp [weight]
  | succ i ih =>
    have := ih (fun j h hj => hs j h (by omega))
    by_cases hi : i < lines.length
    · rw [List.take_succ_eq_append_getElem hi, List.map_append, List.map_singleton, weight_snoc, ← size_L]
      have := hs i hi (by omega)
      omega
    · rw [List.take_of_length_le (by omega)]
      rw [List.take_of_length_le (by omega)] at this
      omega
theorem writes_end (lines : List ByteArray) (hw : weight (lines.map L) ≤ 100000) (good : Bool) (hgood : good = decide (GoodAll (lines.map L))) :
    Ev (fun k => (fold_Fold.f lines).bind fun t => if t.toList = (⟨(Ch.foldAll (lines.map L)).toArray⟩ : ByteArray).toList then (if good = true then ((fold_Unfold.f k t).bind fun bt => (if bt.2 = 0 then (calepinlaw02_FoldWrites.j3 k lines bt.1 ((bt.1.length : Int) != (lines.length : Int))) else (calepinlaw02_FoldWrites.j3 k lines bt.1 true))) else (some true)) else (some false)) true := by
  have hl := weight_length (lines.map L)
  rw [List.length_map] at hl
  have e : lines = mks (lines.map L) := (map_mk_L lines).symm
  have hf : fold_Fold.f lines = some ⟨(Ch.foldAll (lines.map L)).toArray⟩ := by
    conv => lhs; rw [e]
    exact fold_mks _ (by omega)
  rw [hf]
  simp only [Option.bind_some, if_true]
  cases good with
  | false => simp only [Bool.false_eq_true, if_false]; exact Ev.now _
  | true =>
    simp only [if_true]
    have hg : GoodAll (lines.map L) := by simpa using hgood.symm
    have hu := unfold_fold (lines.map L) hg (by omega)
    rw [← e] at hu
    refine Ev.bind hu ?_
    have hne : ((lines.length : Int) != (lines.length : Int)) = false := by simp
    simp only [if_true, hne]
    refine Ev.k1 ?_
    simp only [calepinlaw02_FoldWrites.j3, Bool.false_eq_true, if_false]
    exact writes_l1 lines (by omega) lines.length 0 (by omega) (by omega)
theorem writes_l0 (lines : List ByteArray) : ∀ (d i : Nat), 21 - i = d → i ≤ 20 → i ≤ lines.length → (∀ j (h : j < lines.length), j < i → lines[j].size ≤ 3000) →
    Ev (fun k => calepinlaw02_FoldWrites.l0 k lines (⟨(Ch.foldAll ((lines.take i).map L)).toArray⟩ : ByteArray) (decide (GoodAll ((lines.take i).map L))) lines (lines.length : Int) (i : Int)) true := by
  intro d
  induction d with
  | zero => intro i hd hi; omega
  | succ d ih =>
    intro i hd hi hil hs
    refine Ev.k1 ?_
    have hw := weight_take lines i hs
    by_cases hlt : i < lines.length
    · have g : (i : Int) < (lines.length : Int) := by omega
      have g0 : (0 : Int) ≤ (i : Int) := by omega
      simp only [calepinlaw02_FoldWrites.l0, g, g0, if_true]
      obtain ⟨l, hl⟩ : ∃ l, lines[i] = l := ⟨_, rfl⟩
      have hrd : rdOf ByteArray.empty lines (i : Int) = l := by
        unfold rdOf; rw [Int.toNat_natCast, List.getD_eq_getElem?_getD, List.getElem?_eq_getElem hlt, hl]; rfl
      rw [hrd]
      have hj : ∀ (a : ByteArray) (b c : Bool), c = true → Ev (fun k => calepinlaw02_FoldWrites.j1 k lines a b l lines (lines.length : Int) (i : Int) c) true := by
        rintro a b c rfl
        refine Ev.k1 ?_
        simp only [calepinlaw02_FoldWrites.j1, if_true]
        exact Ev.now _
      by_cases h20 : (i : Int) ≥ 20
      · simp only [h20, if_true]
        exact hj _ _ _ rfl
      · simp only [h20, if_false]
        by_cases hbig : (l.size : Int) > 3000
        · exact hj _ _ _ (decide_eq_true hbig)
        · rw [decide_eq_false hbig]
          refine Ev.k1 ?_
          simp only [calepinlaw02_FoldWrites.j1, Bool.false_eq_true, if_false]
          refine Ev.bind (refFold_any l (by omega)) ?_
          have hlw := Ch.foldL_length (L l)
          have hlz := size_L l
          have haw := foldAll_weight ((lines.take i).map L)
          have g3 : (⟨(Ch.foldAll ((lines.take i).map L)).toArray⟩ : ByteArray).size + (⟨(Ch.foldL (L l)).toArray⟩ : ByteArray).size ≤ 9223372036854775807 := by rw [size_mk, size_mk]; omega
          simp only [g3, if_true]
          have hsnoc : (lines.take (i + 1)).map L = (lines.take i).map L ++ [L l] := by
            rw [List.take_succ_eq_append_getElem hlt, hl, List.map_append, List.map_singleton]
          have happ : (⟨(Ch.foldAll ((lines.take i).map L)).toArray⟩ : ByteArray) ++ (⟨(Ch.foldL (L l)).toArray⟩ : ByteArray) = ⟨(Ch.foldAll ((lines.take (i + 1)).map L)).toArray⟩ := by
            rw [hsnoc, Ch.foldAll_snoc]
            exact eq_of_L (by rw [L_append, L_mk, L_mk])
          rw [happ]
          have hj2 : Ev (fun k => calepinlaw02_FoldWrites.j2 k lines (⟨(Ch.foldAll ((lines.take (i + 1)).map L)).toArray⟩ : ByteArray) (decide (GoodAll ((lines.take (i + 1)).map L))) l lines (lines.length : Int) (i : Int)) true := by
            refine Ev.k1 ?_
            simp only [calepinlaw02_FoldWrites.j2]
            rw [foldGood_any l (by omega)]
            simp only [Option.bind_some]
            refine Ev.bind (refGood_any l (by omega)) ?_
            have hne : (decide (Un.Good (L l)) != decide (Un.Good (L l))) = false := by simp
            simp only [hne, Bool.false_eq_true, if_false, wrap_succ (n := i) (by omega)]
            exact ih (i + 1) (by omega) (by omega) (by omega) (fun j h hj => by
              by_cases e : j = i
              · subst e; rw [hl]; omega
              · exact hs j h (by omega))
          by_cases hga : GoodAll ((lines.take i).map L)
          · have e : decide (GoodAll ((lines.take (i + 1)).map L)) = decide (Un.Good (L l)) := by
              rw [hsnoc, decide_eq_decide, goodAll_snoc]; exact ⟨fun h => h.2, fun h => ⟨hga, h⟩⟩
            simp only [hga, decide_true, if_true]
            rw [e] at hj2
            exact Ev.bind (refGood_any l (by omega)) hj2
          · have e : decide (GoodAll ((lines.take (i + 1)).map L)) = false := by
              rw [hsnoc, decide_eq_false_iff_not, goodAll_snoc]; exact fun h => hga h.1
            simp only [hga, decide_false, Bool.false_eq_true, if_false]
            rw [e] at hj2
            exact hj2
    · have g : ¬ ((i : Int) < (lines.length : Int)) := by omega
      simp only [calepinlaw02_FoldWrites.l0, g, if_false]
      have ht : lines.take i = lines := List.take_of_length_le (by omega)
      rw [ht] at hw ⊢
      exact writes_end lines (by omega) _ rfl
theorem writes_any (lines : List ByteArray) : ∃ k, calepinlaw02_FoldWrites.f k lines = some true := by
  refine Ev.rounds ?_
  unfold calepinlaw02_FoldWrites.f
  refine Ev.bind first_any ?_
  simp only [if_true]
  have := writes_l0 lines 21 0 (by omega) (by omega) (by omega) (fun j _ h => by omega)
  have e : decide (GoodAll ((lines.take 0).map L)) = true := by simp [GoodAll]
  rw [e] at this
  exact this
end Go.Proofs.YtpjidedgifjgeaaDoor.Pf
