/- calepinlaw02.FoldRows, plain: what the printed law comes to is true, at every line. -/
import Derived.Test.YtpjidedgifjgeaaDoorAgain
import Derived.Test.YtpjidedgifjgeaaDoorCont
namespace Go.Proofs.YtpjidedgifjgeaaDoor.Pf
open Go.RowKit Go.Proofs.YtpjidedgifjgeaaDoorW.PrintWords Un
open By (L size_L L_mk mk_L L_inj L_extract L_to L_from L_append wrap_in)
open Ch (Bs chr chars foldR)

theorem bt_mid (s : ByteArray) (A : Bs) (b : UInt8) (B : Bs) (h : L s = A ++ b :: B) : bt s (A.length : Int) = b.toNat :=
  bt_at s A.length b B (by rw [h]; simp)
/-- Bytes that are no carriage return are passed over. -/
theorem rows_skip (s : ByteArray) (hs : s.size ≤ 1073741824) (at' : Int) (r : Bool) : ∀ (c A B : Bs), L s = A ++ c ++ B → 1 ≤ B.length → (13 : UInt8) ∉ c →
    Ev (fun k => calepinlaw02_FoldRows.l0 k s at' ((A.length + c.length : Nat) : Int)) r → Ev (fun k => calepinlaw02_FoldRows.l0 k s at' (A.length : Int)) r
  | [], A, B, _, _, _, h => by simpa using h
  | b :: c, A, B, hL, hB, h13, h => by
    have hz := size_L s
    have hlen : s.size = A.length + (c.length + 1) + B.length := by rw [hz, hL]; simp; omega
    refine Ev.k1 ?_
    have hb : bt s (A.length : Int) = b.toNat := bt_mid s A b (c ++ B) (by rw [hL]; simp)
    have e13 : ((b.toNat : Int) = 13) = (b = 13) := toNat_eq b 13
    simp only [List.mem_cons, not_or] at h13
    have c13 : ¬ (b = 13) := Ne.symm h13.1
    have hw := wrap_succ (n := A.length) (by omega)
    have g1 : ((A.length + 1 : Nat) : Int) < (s.size : Int) := by clear hw; omega
    have g2 : (0 : Int) ≤ (A.length : Int) := by clear hw; omega
    have g3 : (A.length : Int) < (s.size : Int) := by clear hw; omega
    simp only [calepinlaw02_FoldRows.l0, hw, g1, g2, g3, if_true, hb, e13, c13, if_false]
    refine Ev.k1 ?_
    simp only [calepinlaw02_FoldRows.j2, if_true, hw]
    clear hw
    have ih := rows_skip s hs at' r c (A ++ [b]) B (by rw [hL]; simp) hB h13.2 (by
      have e : (A ++ [b]).length + c.length = A.length + (b :: c).length := by simp; omega
      rw [e]; exact h)
    have e : ((A ++ [b]).length : Int) = ((A.length + 1 : Nat) : Int) := by simp
    rw [e] at ih
    exact ih
theorem foldR_two (room : Nat) (l : Bs) : 2 ≤ (foldR room (chars l)).length := by
  refine Ch.chars_ind (P := fun l => ∀ room, 2 ≤ (foldR room (chars l)).length) ?_ ?_ l room
  · intro room; simp [Ch.chars_nil, foldR]
  · intro l h ih room
    rw [Ch.chars_cons h]
    simp only [foldR]
    split
    · simp
    · have := ih (room - (l.take (chr l)).length); simp only [List.length_append]; omega
/-- A row ends here. -/
theorem rows_end (s : ByteArray) (hs : s.size ≤ 1073741824) (P r B : Bs) (hL : L s = P ++ r ++ 13 :: 10 :: B) (hr : r.length ≤ 75) (res : Bool)
    (hnext : B ≠ [] → 75 < r.length + (if B.tail = [] then 1 else chr B.tail))
    (h : Ev (fun k => calepinlaw02_FoldRows.l0 k s ((P.length + r.length + 2 : Nat) : Int) ((P.length + r.length + 1 : Nat) : Int)) res) :
    Ev (fun k => calepinlaw02_FoldRows.l0 k s (P.length : Int) ((P.length + r.length : Nat) : Int)) res := by
  have hz := size_L s
  have hlen : s.size = P.length + r.length + 2 + B.length := by rw [hz, hL]; simp; omega
  refine Ev.k1 ?_
  have hPr : (P ++ r).length = P.length + r.length := List.length_append
  have b0 : bt s ((P.length + r.length : Nat) : Int) = 13 := by
    have := bt_mid s (P ++ r) 13 (10 :: B) hL
    rw [hPr] at this; exact this
  have b1 : bt s ((P.length + r.length + 1 : Nat) : Int) = 10 := by
    have := bt_mid s (P ++ r ++ [13]) 10 B (by rw [hL]; simp)
    have e : (P ++ r ++ [13]).length = P.length + r.length + 1 := by simp; omega
    rw [e] at this; exact this
  have hw := wrap_succ (n := P.length + r.length) (by omega)
  have g1 : ((P.length + r.length + 1 : Nat) : Int) < (s.size : Int) := by clear hw; omega
  have g2 : (0 : Int) ≤ ((P.length + r.length : Nat) : Int) := by clear hw; omega
  have g3 : ((P.length + r.length : Nat) : Int) < (s.size : Int) := by clear hw; omega
  have g4 : (0 : Int) ≤ ((P.length + r.length + 1 : Nat) : Int) := by clear hw; omega
  have hne : ((10 : Int) != 10) = false := rfl
  simp only [calepinlaw02_FoldRows.l0, hw, g1, g2, g3, g4, if_true, b0, b1, hne]
  refine Ev.k1 ?_
  have w2 : wrap64 (((P.length + r.length : Nat) : Int) + 2) = ((P.length + r.length + 2 : Nat) : Int) := by
    rw [wrap_in (by clear hw; omega) (by clear hw; omega)]; rfl
  have w3 := wrap_succ (n := P.length + r.length + 2) (by clear hw w2; omega)
  have g5 : (0 : Int) ≤ (P.length : Int) := by clear hw w2 w3; omega
  have g6 : (P.length : Int) ≤ ((P.length + r.length : Nat) : Int) := by clear hw w2 w3; omega
  have g7 : ((P.length + r.length : Nat) : Int) ≤ (s.size : Int) := by clear hw w2 w3; omega
  have hy : s.extract P.length (P.length + r.length) = ⟨r.toArray⟩ := eq_of_L (by
    rw [L_extract, hL]
    simp)
  have g8 : ¬ ((r.length : Int) > 75) := by clear hw w2 w3; omega
  simp only [calepinlaw02_FoldRows.j2, Bool.false_eq_true, if_false, g5, g6, g7, if_true, Int.toNat_natCast, hy, Option.bind_some, size_mk, g8, w2, hw, w3]
  clear hw w2 w3
  by_cases hB : B = []
  · have g9 : ¬ ((P.length + r.length + 2 : Nat) : Int) < (s.size : Int) := by rw [hB] at hlen; simp at hlen; omega
    simp only [g9, if_false]
    exact h
  · have hB1 : B.length ≠ 0 := by simpa using hB
    have g9 : ((P.length + r.length + 2 : Nat) : Int) < (s.size : Int) := by omega
    have g10 : (0 : Int) ≤ ((P.length + r.length + 2 + 1 : Nat) : Int) := by omega
    have g11 : ((P.length + r.length + 2 + 1 : Nat) : Int) ≤ (s.size : Int) := by omega
    simp only [g9, g10, g11, if_true]
    have hx : s.extract (P.length + r.length + 2 + 1) s.size = ⟨B.tail.toArray⟩ := eq_of_L (by
      rw [L_to, hL]
      obtain ⟨x, B', rfl⟩ := List.exists_cons_of_ne_nil hB
      have e : P ++ r ++ 13 :: 10 :: x :: B' = (P ++ r ++ [13, 10, x]) ++ B' := by simp
      rw [e, List.drop_append_of_le_length (by simp; omega), List.drop_eq_nil_of_le (by simp; omega)]
      rfl)
    have hsz := size_any (⟨B.tail.toArray⟩ : ByteArray)
    rw [L_mk] at hsz
    rw [hx]
    refine Ev.bind hsz ?_
    have hn := hnext hB
    have hc4 := Ch.chr_le4 B.tail
    have hw4 : wrap64 ((r.length : Int) + (if B.tail = [] then 1 else (chr B.tail : Int))) = ((r.length + (if B.tail = [] then 1 else chr B.tail) : Nat) : Int) := by
      split
      · rw [wrap_in (by omega) (by omega)]; rfl
      · rw [wrap_in (by omega) (by omega)]; rfl
    rw [hw4]
    clear hw4
    have g12 : ¬ (((r.length + (if B.tail = [] then 1 else chr B.tail) : Nat) : Int) ≤ 75) := by omega
    simp only [g12, if_false]
    exact h
theorem rows_walk (s : ByteArray) (hs : s.size ≤ 1073741824) (l : Bs) : ∀ (room : Nat) (P r : Bs), (13 : UInt8) ∉ l → r.length + room = 75 → L s = P ++ r ++ foldR room (chars l) →
    Ev (fun k => calepinlaw02_FoldRows.l0 k s (P.length : Int) ((P.length + r.length : Nat) : Int)) true := by
  refine Ch.chars_ind (P := fun l => ∀ (room : Nat) (P r : Bs), (13 : UInt8) ∉ l → r.length + room = 75 → L s = P ++ r ++ foldR room (chars l) →
    Ev (fun k => calepinlaw02_FoldRows.l0 k s (P.length : Int) ((P.length + r.length : Nat) : Int)) true) ?_ ?_ l
  · intro room P r _ hroom hL
    have hL' : L s = P ++ r ++ 13 :: 10 :: [] := hL
    refine rows_end s hs P r [] hL' (by omega) true (fun h => absurd rfl h) ?_
    refine Ev.k1 ?_
    have hlen : s.size = P.length + r.length + 2 := by rw [size_L, hL']; simp; omega
    have hw := wrap_succ (n := P.length + r.length + 1) (by omega)
    have g : ¬ ((P.length + r.length + 1 + 1 : Nat) : Int) < (s.size : Int) := by clear hw; omega
    have e : (((P.length + r.length + 2 : Nat) : Int) == (s.size : Int)) = true := by rw [hlen]; simp
    simp only [calepinlaw02_FoldRows.l0, hw, g, if_false, e]
    exact Ev.now _
  · intro l hl ih room P r h13 hroom hL
    have c1 := Ch.chr_pos hl
    have c3 := Ch.take_chr_length l
    have c4 := Ch.chr_le4 l
    have ht13 : (13 : UInt8) ∉ l.take (chr l) := fun h => h13 (List.mem_of_mem_take h)
    have hd13 : (13 : UInt8) ∉ l.drop (chr l) := fun h => h13 (List.mem_of_mem_drop h)
    have hz := size_L s
    rw [Ch.chars_cons hl] at hL
    simp only [foldR, c3] at hL
    by_cases hb : room < chr l
    · rw [if_pos hb] at hL
      have htwo := foldR_two (74 - chr l) (l.drop (chr l))
      have hcf := Ch.chr_fold l (74 - chr l) hl
      have hlen : s.size = P.length + r.length + 3 + chr l + (foldR (74 - chr l) (chars (l.drop (chr l)))).length := by
        rw [hz, hL]; simp only [List.length_append, List.length_cons, c3]; omega
      refine rows_end s hs P r (32 :: (l.take (chr l) ++ foldR (74 - chr l) (chars (l.drop (chr l))))) hL (by omega) true (fun _ => ?_) ?_
      · have e : ¬ (l.take (chr l) ++ foldR (74 - chr l) (chars (l.drop (chr l))) = []) := by
          intro e; have := congrArg List.length e; rw [List.length_append, c3, List.length_nil] at this; omega
        show 75 < r.length + (if l.take (chr l) ++ foldR (74 - chr l) (chars (l.drop (chr l))) = [] then 1 else chr (l.take (chr l) ++ foldR (74 - chr l) (chars (l.drop (chr l)))))
        rw [if_neg e, hcf]
        omega
      · -- the line feed and the blank are passed over, and the character
        have e0 : P.length + r.length + 1 = (P ++ r ++ [13]).length := by simp; omega
        have hskip := rows_skip s hs ((P.length + r.length + 2 : Nat) : Int) true (10 :: 32 :: l.take (chr l)) (P ++ r ++ [13]) (foldR (74 - chr l) (chars (l.drop (chr l)))) (by rw [hL]; simp) (by omega) (by simp [ht13]) (by
          have hi := ih (74 - chr l) (P ++ r ++ [13, 10]) (32 :: l.take (chr l)) hd13 (by simp only [List.length_cons, c3]; omega) (by rw [hL]; simp)
          have e1 : (P ++ r ++ [13, 10]).length = P.length + r.length + 2 := by simp; omega
          have e2 : (P ++ r ++ [13]).length + (10 :: 32 :: l.take (chr l)).length = P.length + r.length + 2 + (32 :: l.take (chr l)).length := by simp; omega
          rw [e1] at hi
          rw [e2]
          exact hi)
        rw [e0]
        exact hskip
    · rw [if_neg hb] at hL
      have htwo := foldR_two (room - chr l) (l.drop (chr l))
      have hskip := rows_skip s hs (P.length : Int) true (l.take (chr l)) (P ++ r) (foldR (room - chr l) (chars (l.drop (chr l)))) (by rw [hL]; simp) (by omega) ht13 (by
        have hi := ih (room - chr l) P (r ++ l.take (chr l)) hd13 (by rw [List.length_append, c3]; omega) (by rw [hL]; simp)
        have e1 : (P ++ r).length + (l.take (chr l)).length = P.length + (r ++ l.take (chr l)).length := by simp; omega
        rw [e1]
        exact hi)
      rw [List.length_append] at hskip
      exact hskip
theorem rows_any (t : ByteArray) (ht : t.size ≤ 140737488351232) : ∃ k, calepinlaw02_FoldRows.f k t = some true := by
  refine Ev.rounds ?_
  unfold calepinlaw02_FoldRows.f
  refine Ev.bind first_any ?_
  simp only [if_true]
  have hj : Ev (fun k => calepinlaw02_FoldRows.j0 k t true) true := by
    refine Ev.k1 ?_
    simp only [calepinlaw02_FoldRows.j0, if_true]
    exact Ev.now _
  by_cases hbig : (t.size : Int) > 3000
  · simp only [hbig, if_true]
    exact hj
  · simp only [hbig, if_false]
    refine Ev.bind (refGood_any t (by omega)) ?_
    have hz := size_L t
    by_cases hg : Un.Good (L t)
    · simp only [hg, decide_true, Bool.not_true]
      refine Ev.k1 ?_
      simp only [calepinlaw02_FoldRows.j0, Bool.false_eq_true, if_false]
      have hf : fold_Fold.f [t] = some ⟨(Ch.foldL (L t)).toArray⟩ := by
        have := fold_mks [L t] (by simp [weight]; omega)
        have e : mks [L t] = [t] := by simp [mks]
        rw [e] at this
        rw [this]
        simp [Ch.foldAll]
      have hfl := Ch.foldL_length (L t)
      rw [hf]
      simp only [Option.bind_some]
      have := rows_walk (⟨(Ch.foldL (L t)).toArray⟩ : ByteArray) (by rw [size_mk]; omega) (L t) 75 [] [] hg.2.2.1 (by rfl) (by rw [L_mk]; rfl)
      simpa using this
    · simp only [hg, decide_false, Bool.not_false]
      exact hj
end Go.Proofs.YtpjidedgifjgeaaDoor.Pf
