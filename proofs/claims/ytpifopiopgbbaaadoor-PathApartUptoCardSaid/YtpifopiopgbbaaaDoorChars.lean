/- Plain lists of bytes: characters (as Go's decoder parts them), folded lines. No program, no memory. -/
import Derived.Shelf.Unicode.DecodeSlow
namespace Go.Proofs.YtpifopiopgbbaaaDoor.Ch

abbrev Bs := List UInt8
def at_ (l : Bs) (i : Nat) : Nat := (l.getD i 0).toNat
/-- How many bytes the front character has (1 where it is none; 0 of no bytes). -/
def chr (l : Bs) : Nat := if l.length = 0 then 0 else (Lib.decodeN l.length (at_ l 0) (at_ l 1) (at_ l 2) (at_ l 3)).2
/-- The characters. -/
def charsF : Nat → Bs → List Bs
  | 0, _ => []
  | f + 1, l => if l.length = 0 then [] else l.take (chr l) :: charsF f (l.drop (chr l))
def chars (l : Bs) : List Bs := charsF l.length l
/-- A line's characters as rows: 'room' bytes are left in this one. -/
def foldR : Nat → List Bs → Bs
  | _, [] => [13, 10]
  | room, c :: cs => if room < c.length then 13 :: 10 :: 32 :: (c ++ foldR (74 - c.length) cs) else c ++ foldR (room - c.length) cs
def foldL (l : Bs) : Bs := foldR 75 (chars l)

theorem at_lt (l : Bs) (i : Nat) : at_ l i < 256 := UInt8.toNat_lt _
theorem chr_nil : chr [] = 0 := rfl
theorem decodeN_len (n a b c d : Nat) (h : 1 ≤ n) : 1 ≤ (Lib.decodeN n a b c d).2 ∧ (Lib.decodeN n a b c d).2 ≤ n ∧ (Lib.decodeN n a b c d).2 ≤ 4 := by
  unfold Lib.decodeN
  repeat' split
  all_goals (simp only; omega)
theorem chr_pos {l : Bs} (h : l ≠ []) : 1 ≤ chr l := by
  have : l.length ≠ 0 := by simpa using h
  unfold chr
  rw [if_neg this]
  exact (decodeN_len _ _ _ _ _ (by omega)).1
theorem chr_le (l : Bs) : chr l ≤ l.length := by
  unfold chr
  split
  · omega
  · exact (decodeN_len _ _ _ _ _ (by omega)).2.1
theorem chr_le4 (l : Bs) : chr l ≤ 4 := by
  unfold chr
  split
  · omega
  · exact (decodeN_len _ _ _ _ _ (by omega)).2.2

/-! the characters of a text, one by one -/
theorem charsF_more : ∀ (f : Nat) (l : Bs), l.length ≤ f → charsF f l = chars l := by
  suffices H : ∀ (f g : Nat) (l : Bs), l.length ≤ f → l.length ≤ g → charsF f l = charsF g l from fun f l h => H f l.length l h (Nat.le_refl _)
  intro f
  induction f with
  | zero =>
    intro g l hf hg
    cases g with
    | zero => rfl
    | succ g => simp only [charsF]; rw [if_pos (by omega)]
  | succ f ih =>
    intro g l hf hg
    cases g with
    | zero => simp only [charsF]; rw [if_pos (by omega)]
    | succ g =>
      simp only [charsF]
      by_cases h : l.length = 0
      · rw [if_pos h, if_pos h]
      · rw [if_neg h, if_neg h]
        have h1 := chr_pos (l := l) (by simpa using h)
        rw [ih g (l.drop (chr l)) (by rw [List.length_drop]; omega) (by rw [List.length_drop]; omega)]
theorem chars_nil : chars [] = [] := rfl
theorem chars_cons {l : Bs} (h : l ≠ []) : chars l = l.take (chr l) :: chars (l.drop (chr l)) := by
  have h0 : l.length ≠ 0 := by simpa using h
  obtain ⟨n, hn⟩ : ∃ n, l.length = n + 1 := ⟨l.length - 1, by omega⟩
  have h1 := chr_pos h
  show charsF l.length l = _
  rw [hn]
  simp only [charsF]
  rw [if_neg h0, charsF_more _ _ (by rw [List.length_drop]; omega)]
theorem chars_flatten (l : Bs) : (chars l).flatten = l := by
  generalize hn : l.length = n
  induction n using Nat.strongRecOn generalizing l with
  | _ n ih =>
    by_cases h : l = []
    · subst h; rfl
    · have h1 := chr_pos h
      have h2 : l.length ≠ 0 := by simpa using h
      rw [chars_cons h, List.flatten_cons, ih _ (by rw [List.length_drop]; omega) _ rfl, List.take_append_drop]
/-- Induction along the characters. -/
theorem chars_ind {P : Bs → Prop} (h0 : P []) (h1 : ∀ l, l ≠ [] → P (l.drop (chr l)) → P l) (l : Bs) : P l := by
  generalize hn : l.length = n
  induction n using Nat.strongRecOn generalizing l with
  | _ n ih =>
    by_cases h : l = []
    · subst h; exact h0
    · have h2 := chr_pos h
      have h3 : l.length ≠ 0 := by simpa using h
      exact h1 l h (ih _ (by rw [List.length_drop]; omega) _ rfl)
theorem take_chr_length (l : Bs) : (l.take (chr l)).length = chr l := by
  rw [List.length_take]; have := chr_le l; omega
theorem foldR_length (l : Bs) : ∀ room, (foldR room (chars l)).length ≤ 4 * l.length + 2 := by
  refine chars_ind (P := fun l => ∀ room, (foldR room (chars l)).length ≤ 4 * l.length + 2) ?_ ?_ l
  · intro room; simp [chars_nil, foldR]
  · intro l h ih room
    rw [chars_cons h]
    have h1 := chr_pos h
    have h2 := chr_le l
    have h3 := take_chr_length l
    have h4 := ih (74 - chr l)
    have h5 := ih (room - chr l)
    rw [List.length_drop] at h4 h5
    simp only [foldR, h3]
    split
    · simp only [List.length_cons, List.length_append, h3]; omega
    · simp only [List.length_append, h3]; omega

/-- How far a piece goes: n bytes are in it already. -/
def pieceN (most : Nat) : Nat → List Bs → Nat
  | n, [] => n
  | n, c :: cs => if 0 < n ∧ most < n + c.length then n else pieceN most (n + c.length) cs
def pieceL (most : Nat) (l : Bs) : Nat := pieceN most 0 (chars l)
/-- What stands behind a line's first row. -/
def tailR (l : Bs) : Bs := if l = [] then [13, 10] else 13 :: 10 :: 32 :: foldR 74 (chars l)
theorem pieceN_ge (most : Nat) (l : Bs) : ∀ n, n ≤ pieceN most n (chars l) ∧ pieceN most n (chars l) ≤ n + l.length := by
  refine chars_ind (P := fun l => ∀ n, n ≤ pieceN most n (chars l) ∧ pieceN most n (chars l) ≤ n + l.length) ?_ ?_ l
  · intro n; simp [chars_nil, pieceN]
  · intro l h ih n
    rw [chars_cons h]
    have h2 := chr_le l
    have h3 := take_chr_length l
    have h4 := ih (n + chr l)
    rw [List.length_drop] at h4
    simp only [pieceN, h3]
    split
    · omega
    · omega
theorem pieceL_le (most : Nat) (l : Bs) : pieceL most l ≤ l.length := by have := pieceN_ge most l 0; unfold pieceL; omega
theorem pieceL_pos (most : Nat) {l : Bs} (h : l ≠ []) : 1 ≤ pieceL most l := by
  unfold pieceL
  rw [chars_cons h]
  have h1 := chr_pos h
  have h3 := take_chr_length l
  simp only [pieceN, h3]
  rw [if_neg (by omega)]
  have := pieceN_ge most (l.drop (chr l)) (0 + chr l)
  omega
/-- A row is a piece. -/
theorem foldR_piece (most : Nat) (hm : most ≤ 75) (l : Bs) : ∀ n, n ≤ most → (n = 0 → 4 ≤ most) →
    foldR (most - n) (chars l) = l.take (pieceN most n (chars l) - n) ++ tailR (l.drop (pieceN most n (chars l) - n)) := by
  refine chars_ind (P := fun l => ∀ n, n ≤ most → (n = 0 → 4 ≤ most) → foldR (most - n) (chars l) = l.take (pieceN most n (chars l) - n) ++ tailR (l.drop (pieceN most n (chars l) - n))) ?_ ?_ l
  · intro n _ _; simp [chars_nil, foldR, tailR]
  · intro l h ih n hn h0
    have hc := chars_cons h
    rw [hc]
    have h1 := chr_pos h
    have h2 := chr_le l
    have h3 := take_chr_length l
    have h4 := chr_le4 l
    simp only [foldR, pieceN, h3]
    by_cases hb : 0 < n ∧ most < n + chr l
    · rw [if_pos (by omega), if_pos hb]
      rw [Nat.sub_self, List.take_zero, List.drop_zero, List.nil_append, tailR, if_neg h, hc]
      simp only [foldR, h3]
      rw [if_neg (by omega)]
    · rw [if_neg (by omega), if_neg hb]
      have hi := ih (n + chr l) (by omega) (by omega)
      have hg := pieceN_ge most (l.drop (chr l)) (n + chr l)
      rw [show most - n - chr l = most - (n + chr l) from by omega, hi]
      generalize pieceN most (n + chr l) (chars (l.drop (chr l))) = q at *
      rw [← List.append_assoc]
      congr 1
      · rw [show q - n = chr l + (q - (n + chr l)) from by omega, List.take_add]
      · rw [List.drop_drop, show chr l + (q - (n + chr l)) = q - n from by omega]
theorem foldL_piece {l : Bs} : foldL l = l.take (pieceL 75 l) ++ tailR (l.drop (pieceL 75 l)) := by
  have := foldR_piece 75 (Nat.le_refl _) l 0 (by omega) (by omega)
  simpa [foldL, pieceL] using this
theorem tailR_piece {l : Bs} (h : l ≠ []) : tailR l = 13 :: 10 :: 32 :: l.take (pieceL 74 l) ++ tailR (l.drop (pieceL 74 l)) := by
  have := foldR_piece 74 (by omega) l 0 (by omega) (by omega)
  rw [tailR, if_neg h]
  simpa [pieceL] using this
theorem foldL_length (l : Bs) : (foldL l).length ≤ 4 * l.length + 2 := foldR_length l 75
/-- Lines, folded. -/
def foldAll (ls : List Bs) : Bs := (ls.map foldL).flatten
theorem foldAll_length (ls : List Bs) : (foldAll ls).length ≤ 4 * (ls.map (·.length)).sum + 2 * ls.length := by
  induction ls with
  | nil => simp [foldAll]
  | cons l ls ih =>
    have := foldL_length l
    simp only [foldAll, List.map_cons, List.flatten_cons, List.length_append, List.sum_cons, List.length_cons] at ih ⊢
    omega
theorem foldAll_snoc (ls : List Bs) (l : Bs) : foldAll (ls ++ [l]) = foldAll ls ++ foldL l := by simp [foldAll]
end Go.Proofs.YtpifopiopgbbaaaDoor.Ch
