/- The document's Fold and Un.Good, and fold.Good, printed: the plain ones. -/
import Derived.Test.YtpjidedgifjgeaaDoorRune
import Derived.Test.YtpjidedgifjgeaaDoorReads
import Derived.Test.YtpjidedgifjgeaaDoorPfx5
namespace Go.Proofs.YtpjidedgifjgeaaDoor.Pf
open Go.RowKit Go.Proofs.YtpjidedgifjgeaaDoorW.PrintWords Un
open By (L size_L L_mk mk_L L_inj L_extract L_to L_from L_append wrap_in)
open Ch (Bs at_ chr chars foldR)

theorem refFold_loop : ∀ (d : Nat) (l out : ByteArray) (room : Nat) (fst : Bool), l.size = d → l.size ≤ 1073741824 → room ≤ 75 → (fst = true → 4 ≤ room) → out.size + 4 * l.size ≤ 8589934592 →
    Ev (fun k => calepinref02_Fold.l0 k l out (room : Int) fst) (⟨(L out ++ foldR room (chars (L l))).toArray⟩ : ByteArray) := by
  intro d
  induction d using Nat.strongRecOn with
  | _ d ih =>
    intro l out room fst hd hl hroom hf ho
    have hz := size_L l
    refine Ev.k1 ?_
    by_cases h0 : L l = []
    · have g : ¬ ((l.size : Int) > 0) := by rw [hz, h0]; simp
      have g2 : out.size + 2 ≤ 9223372036854775807 := by omega
      simp only [calepinref02_Fold.l0, g, g2, if_false, if_true]
      have e : (⟨(L out ++ foldR room (chars (L l))).toArray⟩ : ByteArray) = out ++ (⟨#[13, 10]⟩ : ByteArray) := by
        rw [h0]
        exact (eq_of_L (by rw [L_append]; rfl)).symm
      rw [e]
      exact Ev.now _
    · have hn : (L l).length ≠ 0 := fun e => h0 (List.eq_nil_of_length_eq_zero e)
      have g : (l.size : Int) > 0 := by omega
      have c1 := Ch.chr_pos h0
      have c2 := Ch.chr_le (L l)
      have c3 := Ch.take_chr_length (L l)
      have c4 := Ch.chr_le4 (L l)
      simp only [calepinref02_Fold.l0, g, if_true]
      have hsz := size_any l
      rw [if_neg h0] at hsz
      refine Ev.bind hsz ?_
      have hx : (l.extract 0 ((chr (L l) : Nat) : Int).toNat) = ⟨((L l).take (chr (L l))).toArray⟩ := eq_of_L (by rw [Int.toNat_natCast, L_from])
      have hy : (l.extract ((chr (L l) : Nat) : Int).toNat l.size) = ⟨((L l).drop (chr (L l))).toArray⟩ := eq_of_L (by rw [Int.toNat_natCast, L_to])
      have hxs : (⟨((L l).take (chr (L l))).toArray⟩ : ByteArray).size = chr (L l) := by rw [size_mk, c3]
      have hys : (⟨((L l).drop (chr (L l))).toArray⟩ : ByteArray).size = l.size - chr (L l) := by rw [size_mk, List.length_drop, ← hz]
      have p1 : (0 : Int) ≤ (chr (L l) : Int) := by omega
      have p2 : (chr (L l) : Int) ≤ (l.size : Int) := by omega
      simp only [hx, hy, p1, p2, if_true, Option.bind_some, hxs]
      rw [Ch.chars_cons h0]
      simp only [foldR, c3]
      have p3 : out.size + chr (L l) ≤ 9223372036854775807 := by omega
      by_cases hb : room < chr (L l)
      · have hbb : (chr (L l) : Int) > (room : Int) := by omega
        have hff : fst = false := by cases fst with
          | false => rfl
          | true => have := hf rfl; omega
        subst hff
        rw [if_pos hb]
        have p4 : out.size + 3 ≤ 9223372036854775807 := by omega
        have hcs : (out ++ (⟨#[13, 10, 32]⟩ : ByteArray)).size = out.size + 3 := by
          rw [size_L, L_append, List.length_append, ← size_L]; rfl
        have p5 : (out ++ (⟨#[13, 10, 32]⟩ : ByteArray)).size + chr (L l) ≤ 9223372036854775807 := by rw [hcs]; omega
        have hw : wrap64 (74 - (chr (L l) : Int)) = ((74 - chr (L l) : Nat) : Int) := by
          rw [Int.natCast_sub (by omega)]; exact wrap_in (by omega) (by omega)
        simp only [hbb, p4, p5, if_true, Bool.false_eq_true, if_false, hw]
        clear hw
        have hos : ((out ++ (⟨#[13, 10, 32]⟩ : ByteArray)) ++ (⟨((L l).take (chr (L l))).toArray⟩ : ByteArray)).size = out.size + 3 + chr (L l) := by
          rw [size_L, L_append, List.length_append, ← size_L, hcs, L_mk, c3]
        have hi := ih (l.size - chr (L l)) (by omega) _ ((out ++ (⟨#[13, 10, 32]⟩ : ByteArray)) ++ (⟨((L l).take (chr (L l))).toArray⟩ : ByteArray)) (74 - chr (L l)) false hys (by omega) (by omega) (by simp) (by rw [hos, hys]; omega)
        have e : L ((out ++ (⟨#[13, 10, 32]⟩ : ByteArray)) ++ (⟨((L l).take (chr (L l))).toArray⟩ : ByteArray)) ++ foldR (74 - chr (L l)) (chars (L (⟨((L l).drop (chr (L l))).toArray⟩ : ByteArray))) = L out ++ 13 :: 10 :: 32 :: ((L l).take (chr (L l)) ++ foldR (74 - chr (L l)) (chars ((L l).drop (chr (L l))))) := by
          rw [L_append, L_append, L_mk, L_mk]
          simp
        rw [e] at hi
        exact hi
      · have hbb : ¬ ((chr (L l) : Int) > (room : Int)) := by omega
        rw [if_neg hb]
        have hw : wrap64 ((room : Int) - (chr (L l) : Int)) = ((room - chr (L l) : Nat) : Int) := by
          rw [Int.natCast_sub (by omega)]; exact wrap_in (by omega) (by omega)
        simp only [hbb, p3, if_true, if_false, hw]
        clear hw
        have hos : (out ++ (⟨((L l).take (chr (L l))).toArray⟩ : ByteArray)).size = out.size + chr (L l) := by
          rw [size_L, L_append, List.length_append, ← size_L, L_mk, c3]
        have hi := ih (l.size - chr (L l)) (by omega) _ (out ++ (⟨((L l).take (chr (L l))).toArray⟩ : ByteArray)) (room - chr (L l)) false hys (by omega) (by omega) (by simp) (by rw [hos, hys]; omega)
        rw [L_append, L_mk, L_mk, List.append_assoc] at hi
        exact hi
theorem refFold_any (l : ByteArray) (hl : l.size ≤ 1073741824) : Ev (fun k => calepinref02_Fold.f k l) (⟨(Ch.foldL (L l)).toArray⟩ : ByteArray) := by
  have := refFold_loop l.size l (⟨#[]⟩ : ByteArray) 75 true rfl hl (by omega) (by omega) (by have : (⟨#[]⟩ : ByteArray).size = 0 := rfl; omega)
  have e : L (⟨#[]⟩ : ByteArray) ++ foldR 75 (chars (L l)) = Ch.foldL (L l) := rfl
  rw [e] at this
  exact this

/-! ### Good -/
instance (l : Bs) : Decidable (Un.Good l) := inferInstanceAs (Decidable (_ ∧ _))
theorem refGood_loop (s : ByteArray) (hs : s.size ≤ 140737488355328) : ∀ (d i : Nat), s.size - i = d → i ≤ s.size →
    Ev (fun k => calepinref02_Good.l0 k s (i : Int)) (decide ((13 : UInt8) ∉ (L s).drop i ∧ (10 : UInt8) ∉ (L s).drop i)) := by
  intro d
  induction d with
  | zero =>
    intro i hd hi
    obtain rfl : i = s.size := by omega
    refine Ev.k1 ?_
    have g : ¬ ((s.size : Int) < (s.size : Int)) := by omega
    simp only [calepinref02_Good.l0, g, if_false]
    rw [List.drop_eq_nil_of_le (by rw [← size_L]; exact Nat.le_refl _)]
    exact Ev.now _
  | succ d ih =>
    intro i hd hi
    refine Ev.k1 ?_
    obtain ⟨b, hb⟩ := drop_lt s i (by omega)
    have g : ((i : Int) < (s.size : Int)) := by omega
    have g0 : (0 : Int) ≤ (i : Int) := by omega
    simp only [calepinref02_Good.l0, g, g0, if_true, bt_at s i b _ hb, wrap_succ (n := i) (by omega)]
    have e13 : ((b.toNat : Int) = 13) = (b = 13) := toNat_eq b 13
    have e10 : ((b.toNat : Int) = 10) = (b = 10) := toNat_eq b 10
    simp only [e13, e10]
    rw [hb]
    by_cases c13 : b = 13
    · subst c13
      simp only [if_true]
      have e : decide ((13 : UInt8) ∉ (13 : UInt8) :: (L s).drop (i + 1) ∧ (10 : UInt8) ∉ (13 : UInt8) :: (L s).drop (i + 1)) = false := by simp
      rw [e]
      exact Ev.now _
    · by_cases c10 : b = 10
      · subst c10
        have e : decide ((13 : UInt8) ∉ (10 : UInt8) :: (L s).drop (i + 1) ∧ (10 : UInt8) ∉ (10 : UInt8) :: (L s).drop (i + 1)) = false := by simp
        rw [e]
        simp only [c13, if_true, if_false]
        exact Ev.now _
      · simp only [c13, c10, if_false]
        have hi := ih (i + 1) (by omega) (by omega)
        have e : decide ((13 : UInt8) ∉ b :: (L s).drop (i + 1) ∧ (10 : UInt8) ∉ b :: (L s).drop (i + 1)) = decide ((13 : UInt8) ∉ (L s).drop (i + 1) ∧ (10 : UInt8) ∉ (L s).drop (i + 1)) := by
          simp [Ne.symm c13, Ne.symm c10]
        rw [e]
        exact hi
theorem refGood_any (s : ByteArray) (hs : s.size ≤ 140737488355328) : Ev (fun k => calepinref02_Good.f k s) (decide (Un.Good (L s))) := by
  have hz := size_L s
  have hj : ∀ b : Bool, Ev (fun k => calepinref02_Good.j0 k s b) (if b then false else decide ((13 : UInt8) ∉ L s ∧ (10 : UInt8) ∉ L s)) := by
    intro b
    refine Ev.k1 ?_
    cases b with
    | true => simp only [calepinref02_Good.j0, if_true]; exact Ev.now _
    | false =>
      simp only [calepinref02_Good.j0, Bool.false_eq_true, if_false]
      have := refGood_loop s hs s.size 0 (by omega) (by omega)
      simpa using this
  unfold calepinref02_Good.f
  by_cases h0 : L s = []
  · have g : (s.size : Int) = 0 := by rw [hz, h0]; rfl
    simp only [g, if_true]
    have := hj true
    have e : decide (Un.Good (L s)) = false := by simp [Un.Good, h0]
    rw [e]; exact this
  · have hn : (L s).length ≠ 0 := fun e => h0 (List.eq_nil_of_length_eq_zero e)
    have g : ¬ (s.size : Int) = 0 := by omega
    have g1 : (0 : Int) < (s.size : Int) := by omega
    simp only [g, g1, if_true, if_false]
    have hbl := blank_bt s h0
    have e : ∀ k, (if bt s 0 = 32 then calepinref02_Good.j0 k s true else calepinref02_Good.j0 k s (bt s 0 == 9)) = calepinref02_Good.j0 k s (decide (Blank (L s))) := by
      intro k
      have e : decide (Blank (L s)) = !(if bt s 0 = 32 then false else bt s 0 != 9) := by rw [hbl, Bool.not_not]
      rw [e]
      split
      · rfl
      · simp [bne]
    simp only [e]
    have := hj (decide (Blank (L s)))
    have e2 : (if decide (Blank (L s)) = true then false else decide ((13 : UInt8) ∉ L s ∧ (10 : UInt8) ∉ L s)) = decide (Un.Good (L s)) := by
      unfold Un.Good
      by_cases hB : Blank (L s)
      · simp [hB]
      · simp [hB, h0]
    rw [e2] at this
    exact this
/-- fold.Good. -/
theorem foldGood_any (s : ByteArray) (hs : s.size < 4294967281) : fold_Good.f s = some (decide (Un.Good (L s))) := by
  have hz := size_L s
  unfold fold_Good.f
  by_cases h0 : L s = []
  · rw [if_pos (by rw [By.toList_L]; exact h0)]
    simp [Un.Good, h0]
  · have hn : (L s).length ≠ 0 := fun e => h0 (List.eq_nil_of_length_eq_zero e)
    rw [if_neg (by rw [By.toList_L]; exact h0), if_pos (by omega)]
    have hbl := blank_bt s h0
    have hc : strings_ContainsAny.f s (⟨#[13, 10]⟩ : ByteArray) = some (decide ((13 : UInt8) ∈ L s ∨ (10 : UInt8) ∈ L s)) := by
      unfold strings_ContainsAny.f
      rw [if_pos ⟨hs, rfl⟩]
      rw [show s.data.toList = L s from rfl, containsAny_crlf]
    rw [hc]
    simp only [Option.bind_some]
    by_cases c1 : bt s 0 = 32
    · rw [if_pos c1]
      rw [if_pos c1] at hbl
      have hB : Blank (L s) := by simpa using hbl.symm
      simp [Un.Good, hB]
    · rw [if_neg c1]
      rw [if_neg c1] at hbl
      by_cases c2 : bt s 0 = 9
      · rw [if_pos c2]
        have hB : Blank (L s) := by
          have : (bt s 0 != 9) = false := by simp [c2]
          rw [this] at hbl
          simpa using hbl.symm
        simp [Un.Good, hB]
      · rw [if_neg c2]
        have hB : ¬ Blank (L s) := by
          have : (bt s 0 != 9) = true := by simp [c2]
          rw [this] at hbl
          simpa using hbl.symm
        simp [Un.Good, hB, h0]
end Go.Proofs.YtpjidedgifjgeaaDoor.Pf
