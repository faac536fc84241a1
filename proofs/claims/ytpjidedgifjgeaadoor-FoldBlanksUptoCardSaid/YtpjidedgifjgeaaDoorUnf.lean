/- Plain lists of bytes: rows, unfolded lines; what is folded is unfolded again. No program, no memory. -/
import Derived.Test.YtpjidedgifjgeaaDoorChars
import Derived.Lib.IndexMore
import Derived.Lib.IndexAny
import Derived.Lib.IndexBytes
namespace Go.Proofs.YtpjidedgifjgeaaDoor.Un
open Ch (Bs)

def cut10 : Bs → Bs × Bs × Bool
  | [] => ([], [], false)
  | b :: l => if b = 10 then ([], l, true) else (b :: (cut10 l).1, (cut10 l).2.1, (cut10 l).2.2)
def trimCR (l : Bs) : Bs := if l.getLast? = some 13 then l.dropLast else l
def Bad (r : Bs) : Prop := r = [] ∨ (13 : UInt8) ∈ r
instance (r : Bs) : Decidable (Bad r) := inferInstanceAs (Decidable (_ ∨ _))
def Blank (r : Bs) : Prop := r.head? = some 32 ∨ r.head? = some 9
instance (r : Bs) : Decidable (Blank r) := inferInstanceAs (Decidable (_ ∨ _))
/-- A row that goes on is put to the last line. -/
def putLast (out : List Bs) (r : Bs) : List Bs := out.set (out.length - 1) (out.getD (out.length - 1) [] ++ r.tail)
def unf : Nat → Bs → List Bs → Option (List Bs)
  | 0, _, _ => none
  | f + 1, t, out => if t = [] then some out else
      if (cut10 t).2.2 = false ∨ Bad (trimCR (cut10 t).1) then none
      else if Blank (trimCR (cut10 t).1) then (if out = [] then none else unf f (cut10 t).2.1 (putLast out (trimCR (cut10 t).1)))
      else unf f (cut10 t).2.1 (out ++ [trimCR (cut10 t).1])
def unfold (t : Bs) : Option (List Bs) := unf (t.length + 1) t []
def rowsOf : Nat → Bs → Option (List Bs)
  | 0, _ => none
  | f + 1, t => if t = [] then some [] else if (cut10 t).2.2 then (rowsOf f (cut10 t).2.1).map (trimCR (cut10 t).1 :: ·) else none
def proc : List Bs → List Bs → Option (List Bs)
  | [], out => some out
  | r :: rs, out => if Bad r then none else if Blank r then (if out = [] then none else proc rs (putLast out r)) else proc rs (out ++ [r])

/-! ### the library's words -/
theorem index_10 (c : UInt8) (l : Bs) : (Lib.index l [c] = -1 ∧ c ∉ l) ∨ ∃ i : Nat, Lib.index l [c] = i ∧ i < l.length ∧ c ∈ l := by
  rw [Lib.index_one]
  induction l with
  | nil => exact .inl ⟨rfl, by simp⟩
  | cons b l ih =>
    unfold Lib.indexByte
    by_cases h : b = c
    · subst h; exact .inr ⟨0, by simp, by simp, by simp⟩
    · have hb : (b == c) = false := by simpa using h
      rcases ih with ⟨h1, h2⟩ | ⟨i, h1, h2, h3⟩
      · exact .inl ⟨by simp [hb, h1], by simp [Ne.symm h, h2]⟩
      · refine .inr ⟨i + 1, ?_, by simpa using h2, by simp [h3]⟩
        have hi : ¬ ((i : Int) = -1) := by omega
        simp [hb, h1, hi]
theorem contains_one (c : UInt8) (l : Bs) : Lib.contains l [c] = decide (c ∈ l) := by
  unfold Lib.contains
  rcases index_10 c l with ⟨h1, h2⟩ | ⟨i, h1, _, h2⟩
  · rw [h1]; simp [h2]
  · rw [h1]; simp [h2]
theorem containsAny_crlf (l : Bs) : Lib.containsAny l [13, 10] = decide ((13 : UInt8) ∈ l ∨ (10 : UInt8) ∈ l) := by
  unfold Lib.containsAny
  induction l with
  | nil => simp [Lib.indexAny]
  | cons b l ih =>
    have hge := Lib.indexAny_ge [13, 10] l
    unfold Lib.indexAny
    by_cases h : b = 13 ∨ b = 10
    · have : ([13, 10] : Bs).contains b = true := by rcases h with rfl | rfl <;> decide
      rw [if_pos this]
      rcases h with rfl | rfl <;> simp
    · have hc : ([13, 10] : Bs).contains b = false := by
        simp only [not_or] at h
        simp [h.1, h.2]
      rw [if_neg (by rw [hc]; simp)]
      simp only [not_or] at h
      have e : ((13 : UInt8) ∈ b :: l ∨ (10 : UInt8) ∈ b :: l) = ((13 : UInt8) ∈ l ∨ (10 : UInt8) ∈ l) := by
        simp [Ne.symm h.1, Ne.symm h.2]
      simp only [e, ← ih]
      by_cases hi : Lib.indexAny l [13, 10] = -1
      · simp [hi]
      · have : (Lib.indexAny l [13, 10] == -1) = false := by simpa using hi
        rw [this]
        simp only [Bool.false_eq_true, if_false]
        by_cases h0 : 0 ≤ Lib.indexAny l [13, 10]
        · rw [decide_eq_true h0, decide_eq_true (by omega)]
        · exact absurd hge (by omega)
theorem cut10_no {l : Bs} (h : (10 : UInt8) ∉ l) : cut10 l = (l, [], false) := by
  induction l with
  | nil => rfl
  | cons b l ih =>
    simp only [List.mem_cons, not_or] at h
    simp only [cut10, ih h.2]
    rw [if_neg (Ne.symm h.1)]
theorem cut10_yes {a : Bs} (b : Bs) (h : (10 : UInt8) ∉ a) : cut10 (a ++ 10 :: b) = (a, b, true) := by
  induction a with
  | nil => simp [cut10]
  | cons x a ih =>
    simp only [List.mem_cons, not_or] at h
    simp only [List.cons_append, cut10, ih h.2]
    rw [if_neg (Ne.symm h.1)]
theorem index_at (c : UInt8) {a : Bs} (b : Bs) (h : c ∉ a) : Lib.index (a ++ c :: b) [c] = a.length := by
  rw [Lib.index_one]
  induction a with
  | nil => simp [Lib.indexByte]
  | cons x a ih =>
    simp only [List.mem_cons, not_or] at h
    have hx : (x == c) = false := by simpa using Ne.symm h.1
    have hn : ¬ ((a.length : Int) = -1) := by omega
    simp [Lib.indexByte, hx, ih h.2, hn]
theorem cut_10 (l : Bs) : Lib.cut l [10] = cut10 l := by
  by_cases h : (10 : UInt8) ∈ l
  · obtain ⟨a, b, rfl, ha⟩ := List.eq_append_cons_of_mem h
    rw [cut10_yes b ha]
    unfold Lib.cut
    rw [index_at 10 b ha, if_pos (by omega)]
    simp
  · rw [cut10_no h]
    unfold Lib.cut
    rcases index_10 10 l with ⟨h1, _⟩ | ⟨i, _, _, h2⟩
    · rw [h1]; rfl
    · exact absurd h2 h
theorem cut10_length {l : Bs} (h : (cut10 l).2.2 = true) : (cut10 l).2.1.length < l.length := by
  by_cases h10 : (10 : UInt8) ∈ l
  · obtain ⟨a, b, rfl, ha⟩ := List.eq_append_cons_of_mem h10
    rw [cut10_yes b ha]; simp only [List.length_append, List.length_cons]; omega
  · rw [cut10_no h10] at h; cases h

/-- Rows first, lines then: the same. -/
theorem unf_rows : ∀ (f : Nat) (t : Bs) (out : List Bs), unf f t out = (rowsOf f t).bind (proc · out)
  | 0, _, _ => rfl
  | f + 1, t, out => by
    unfold unf rowsOf
    by_cases ht : t = []
    · rw [if_pos ht, if_pos ht]; rfl
    · rw [if_neg ht, if_neg ht]
      by_cases hok : (cut10 t).2.2 = true
      · rw [if_pos hok]
        have ih := fun o => unf_rows f (cut10 t).2.1 o
        cases hr : rowsOf f (cut10 t).2.1 with
        | none =>
          simp only [hr, Option.bind_none] at ih
          simp only [ih, Option.map_none, Option.bind_none]
          repeat' split
          all_goals rfl
        | some rs =>
          simp only [hr, Option.bind_some] at ih
          simp only [Option.map_some, Option.bind_some, proc, ih]
          by_cases hb : Bad (trimCR (cut10 t).1)
          · rw [if_pos (.inr hb), if_pos hb]
          · rw [if_neg (by simp [hok, hb]), if_neg hb]
      · have hf : (cut10 t).2.2 = false := by simpa using hok
        rw [if_pos (.inl hf), if_neg hok]; rfl

/-! ### What is folded is unfolded again -/
def Good (l : Bs) : Prop := l ≠ [] ∧ ¬ Blank l ∧ (13 : UInt8) ∉ l ∧ (10 : UInt8) ∉ l
theorem trimCR_13 (r : Bs) : trimCR (r ++ [13]) = r := by simp [trimCR]
theorem unf_more : ∀ (f g : Nat) (t : Bs) (out : List Bs), t.length < f → t.length < g → unf f t out = unf g t out := by
  intro f
  induction f with
  | zero => intro g t out h; omega
  | succ f ih =>
    intro g t out hf hg
    obtain ⟨g, rfl⟩ : ∃ m, g = m + 1 := ⟨g - 1, by omega⟩
    simp only [unf]
    by_cases ht : t = []
    · rw [if_pos ht, if_pos ht]
    · rw [if_neg ht, if_neg ht]
      by_cases hb : (cut10 t).2.2 = false ∨ Bad (trimCR (cut10 t).1)
      · rw [if_pos hb, if_pos hb]
      · rw [if_neg hb, if_neg hb]
        have hl := cut10_length (l := t) (by simpa using fun h => hb (.inl h))
        rw [ih g _ _ (by omega) (by omega), ih g _ _ (by omega) (by omega)]
/-- The fuel that a text needs. -/
def unfT (t : Bs) (out : List Bs) : Option (List Bs) := unf (t.length + 1) t out
theorem unfT_nil (out : List Bs) : unfT [] out = some out := rfl
theorem unf_T (f : Nat) (t : Bs) (out : List Bs) (h : t.length < f) : unf f t out = unfT t out := unf_more _ _ _ _ h (by omega)
/-- A row of a text: what it does to the lines. -/
theorem unfT_row (r : Bs) (t : Bs) (out : List Bs) (h10 : (10 : UInt8) ∉ r) (h13 : (13 : UInt8) ∉ r) (hr : r ≠ []) :
    unfT (r ++ 13 :: 10 :: t) out = if Blank r then (if out = [] then none else unfT t (putLast out r)) else unfT t (out ++ [r]) := by
  have e : r ++ 13 :: 10 :: t = (r ++ [13]) ++ 10 :: t := by simp
  have hc : cut10 (r ++ 13 :: 10 :: t) = (r ++ [13], t, true) := by
    rw [e]; exact cut10_yes t (by simp [h10])
  have hb : ¬ Bad r := by unfold Bad; simp [hr, h13]
  show unf ((r ++ 13 :: 10 :: t).length + 1) _ _ = _
  simp only [unf, hc, trimCR_13]
  rw [if_neg (by simp), if_neg (by simp [hb])]
  rw [unf_T _ _ _ (by simp; omega), unf_T _ _ _ (by simp; omega)]
/-- What the lines are, once the row r is in. -/
def acc (out : List Bs) (r : Bs) : List Bs := if Blank r then putLast out r else out ++ [r]
theorem putLast_snoc (o : List Bs) (x r : Bs) : putLast (o ++ [x]) r = o ++ [x ++ r.tail] := by
  unfold putLast
  simp
theorem acc_snoc (out : List Bs) (r : Bs) (h : Blank r → out ≠ []) (hr : r ≠ []) : ∃ o x, acc out r = o ++ [x] ∧ ∀ c, acc out (r ++ c) = o ++ [x ++ c] := by
  obtain ⟨b, r, rfl⟩ := List.exists_cons_of_ne_nil hr
  have hB : ∀ c, Blank (b :: r ++ c) ↔ Blank (b :: r) := fun c => by simp [Blank]
  by_cases hb : Blank (b :: r)
  · have ho := h hb
    obtain ⟨o, x, rfl⟩ : ∃ o x, out = o ++ [x] := ⟨_, _, (List.dropLast_concat_getLast ho).symm⟩
    refine ⟨o, x ++ r, ?_, fun c => ?_⟩
    · unfold acc; rw [if_pos hb, putLast_snoc]; rfl
    · unfold acc; rw [if_pos ((hB c).2 hb), putLast_snoc]; simp
  · refine ⟨out, b :: r, ?_, fun c => ?_⟩
    · unfold acc; rw [if_neg hb]
    · unfold acc; rw [if_neg (fun h => hb ((hB c).1 h))]
open Ch (chars foldR chr)
theorem unfT_foldR (l : Bs) : ∀ (room : Nat) (r : Bs) (t : Bs) (out : List Bs), (10 : UInt8) ∉ l → (13 : UInt8) ∉ l → (10 : UInt8) ∉ r → (13 : UInt8) ∉ r → r ≠ [] → (Blank r → out ≠ []) →
    unfT (r ++ foldR room (chars l) ++ t) out = unfT t (acc out (r ++ l)) := by
  refine Ch.chars_ind (P := fun l => ∀ (room : Nat) (r : Bs) (t : Bs) (out : List Bs), (10 : UInt8) ∉ l → (13 : UInt8) ∉ l → (10 : UInt8) ∉ r → (13 : UInt8) ∉ r → r ≠ [] → (Blank r → out ≠ []) → unfT (r ++ foldR room (chars l) ++ t) out = unfT t (acc out (r ++ l))) ?_ ?_ l
  · intro room r t out _ _ h1 h2 hr ho
    simp only [Ch.chars_nil, foldR, List.append_nil, List.append_assoc, List.cons_append, List.nil_append]
    rw [unfT_row r t out h1 h2 hr]
    unfold acc
    split
    · rename_i hb; rw [if_neg (ho hb)]
    · rfl
  · intro l hl ih room r t out hl10 hl13 h1 h2 hr ho
    have hd10 : (10 : UInt8) ∉ l.drop (chr l) := fun h => hl10 (List.mem_of_mem_drop h)
    have hd13 : (13 : UInt8) ∉ l.drop (chr l) := fun h => hl13 (List.mem_of_mem_drop h)
    have ht10 : (10 : UInt8) ∉ l.take (chr l) := fun h => hl10 (List.mem_of_mem_take h)
    have ht13 : (13 : UInt8) ∉ l.take (chr l) := fun h => hl13 (List.mem_of_mem_take h)
    rw [Ch.chars_cons hl]
    simp only [foldR]
    obtain ⟨o, x, ha, hc⟩ := acc_snoc out r ho hr
    split
    · have e : r ++ 13 :: 10 :: 32 :: (l.take (chr l) ++ foldR (74 - (l.take (chr l)).length) (chars (l.drop (chr l)))) ++ t
          = r ++ 13 :: 10 :: ((32 :: l.take (chr l)) ++ foldR (74 - (l.take (chr l)).length) (chars (l.drop (chr l))) ++ t) := by simp
      rw [e, unfT_row r _ out h1 h2 hr]
      have h32 : ∀ c : Bs, Blank (32 :: c) := fun c => by simp [Blank]
      have hi := ih (74 - (l.take (chr l)).length) (32 :: l.take (chr l)) t (acc out r) hd10 hd13 (by simp [ht10]) (by simp [ht13]) (by simp) (fun _ => by rw [ha]; simp)
      have e2 : (if Blank r then (if out = [] then none else unfT ((32 :: l.take (chr l)) ++ foldR (74 - (l.take (chr l)).length) (chars (l.drop (chr l))) ++ t) (putLast out r)) else unfT ((32 :: l.take (chr l)) ++ foldR (74 - (l.take (chr l)).length) (chars (l.drop (chr l))) ++ t) (out ++ [r])) = unfT ((32 :: l.take (chr l)) ++ foldR (74 - (l.take (chr l)).length) (chars (l.drop (chr l))) ++ t) (acc out r) := by
        unfold acc
        split
        · rename_i hb; rw [if_neg (ho hb)]
        · rfl
      rw [e2, hi, hc, ha]
      unfold acc
      rw [List.cons_append, List.take_append_drop, if_pos (h32 l), putLast_snoc]
      rfl
    · have e : r ++ (l.take (chr l) ++ foldR (room - (l.take (chr l)).length) (chars (l.drop (chr l)))) ++ t = (r ++ l.take (chr l)) ++ foldR (room - (l.take (chr l)).length) (chars (l.drop (chr l))) ++ t := by simp
      rw [e, ih _ (r ++ l.take (chr l)) t out hd10 hd13 (by simp [h1, ht10]) (by simp [h2, ht13]) (by simp [hr]) ?_]
      · rw [List.append_assoc, List.take_append_drop]
      · obtain ⟨b, r', rfl⟩ := List.exists_cons_of_ne_nil hr
        exact fun h => ho (by simpa [Blank] using h)
theorem unfT_foldL {l : Bs} (h : Good l) (t : Bs) (out : List Bs) : unfT (Ch.foldL l ++ t) out = unfT t (out ++ [l]) := by
  obtain ⟨h0, hb, h13, h10⟩ := h
  have h1 := Ch.chr_pos h0
  have h2 := Ch.chr_le l
  have h3 := Ch.take_chr_length l
  have h4 := Ch.chr_le4 l
  have hne : l.take (chr l) ≠ [] := by intro e; rw [e] at h3; simp at h3; omega
  have hB : ¬ Blank (l.take (chr l)) := by
    obtain ⟨b, l', rfl⟩ := List.exists_cons_of_ne_nil h0
    obtain ⟨n, hn⟩ : ∃ n, chr (b :: l') = n + 1 := ⟨chr (b :: l') - 1, by omega⟩
    rw [hn, List.take_succ_cons]
    exact fun h => hb (by simpa [Blank] using h)
  unfold Ch.foldL
  rw [Ch.chars_cons h0]
  simp only [foldR]
  rw [if_neg (by omega)]
  rw [unfT_foldR _ _ _ _ _ (fun h => h10 (List.mem_of_mem_drop h)) (fun h => h13 (List.mem_of_mem_drop h)) (fun h => h10 (List.mem_of_mem_take h)) (fun h => h13 (List.mem_of_mem_take h)) hne (fun h => absurd h hB), List.take_append_drop]
  unfold acc
  rw [if_neg hb]
theorem unfT_foldAll : ∀ (ls : List Bs) (out : List Bs), (∀ l ∈ ls, Good l) → unfT (Ch.foldAll ls) out = some (out ++ ls)
  | [], out, _ => by simp [Ch.foldAll, unfT_nil]
  | l :: ls, out, h => by
    have : Ch.foldAll (l :: ls) = Ch.foldL l ++ Ch.foldAll ls := by simp [Ch.foldAll]
    rw [this, unfT_foldL (h l (by simp)), unfT_foldAll ls _ (fun x hx => h x (by simp [hx]))]
    simp

/-! ### What comes out is good, and no longer than what came in -/
theorem cut10_parts {t : Bs} (h : (cut10 t).2.2 = true) : t = (cut10 t).1 ++ 10 :: (cut10 t).2.1 ∧ (10 : UInt8) ∉ (cut10 t).1 := by
  by_cases h10 : (10 : UInt8) ∈ t
  · obtain ⟨a, b, rfl, ha⟩ := List.eq_append_cons_of_mem h10
    rw [cut10_yes b ha]; exact ⟨rfl, ha⟩
  · rw [cut10_no h10] at h; cases h
theorem trimCR_length (r : Bs) : (trimCR r).length ≤ r.length := by unfold trimCR; split <;> simp
theorem trimCR_mem {c : UInt8} {r : Bs} (h : c ∈ trimCR r) : c ∈ r := by
  unfold trimCR at h
  split at h
  · exact (List.dropLast_sublist r).subset h
  · exact h
def weight (ls : List Bs) : Nat := (ls.map (·.length)).sum + ls.length
theorem weight_snoc (o : List Bs) (x : Bs) : weight (o ++ [x]) = weight o + x.length + 1 := by simp [weight]; omega
theorem snoc_of {out : List Bs} (h : out ≠ []) : ∃ o x, out = o ++ [x] := ⟨_, _, (List.dropLast_concat_getLast h).symm⟩
/-- One row on: the lines stay good, and their weight grows by no more than what was read. -/
theorem unf_inv : ∀ (f : Nat) (t : Bs) (out ls : List Bs), unf f t out = some ls → (∀ l ∈ out, Good l) → (∀ l ∈ ls, Good l) ∧ weight ls ≤ weight out + t.length
  | 0, _, _, _, h, _ => by cases h
  | f + 1, t, out, ls, h, hg => by
    simp only [unf] at h
    by_cases ht : t = []
    · rw [if_pos ht] at h
      cases h
      exact ⟨hg, by omega⟩
    · rw [if_neg ht] at h
      by_cases hb : (cut10 t).2.2 = false ∨ Bad (trimCR (cut10 t).1)
      · rw [if_pos hb] at h; cases h
      · rw [if_neg hb] at h
        simp only [not_or, Bool.not_eq_false] at hb
        obtain ⟨hok, hbad⟩ := hb
        obtain ⟨hp, h10⟩ := cut10_parts hok
        have hl : t.length = (cut10 t).1.length + (cut10 t).2.1.length + 1 := by
          conv => lhs; rw [hp]
          simp only [List.length_append, List.length_cons]; omega
        have hr := trimCR_length (cut10 t).1
        have hr10 : (10 : UInt8) ∉ trimCR (cut10 t).1 := fun h => h10 (trimCR_mem h)
        have hr0 : trimCR (cut10 t).1 ≠ [] := fun h => hbad (.inl h)
        have hr13 : (13 : UInt8) ∉ trimCR (cut10 t).1 := fun h => hbad (.inr h)
        generalize trimCR (cut10 t).1 = r at *
        by_cases hB : Blank r
        · rw [if_pos hB] at h
          by_cases ho : out = []
          · rw [if_pos ho] at h; cases h
          · rw [if_neg ho] at h
            obtain ⟨o, x, rfl⟩ := snoc_of ho
            rw [putLast_snoc] at h
            have hx : Good x := hg x (by simp)
            have ih := unf_inv f _ _ ls h (by
              intro l hl
              rcases List.mem_append.1 hl with hl | hl
              · exact hg l (by simp [hl])
              · obtain rfl := List.mem_singleton.1 hl
                obtain ⟨q1, q2, q3, q4⟩ := hx
                refine ⟨by simp [q1], ?_, ?_, ?_⟩
                · obtain ⟨b, x', rfl⟩ := List.exists_cons_of_ne_nil q1
                  exact fun h => q2 (by simpa [Blank] using h)
                · simp only [List.mem_append, not_or]; exact ⟨q3, fun h => hr13 (List.mem_of_mem_tail h)⟩
                · simp only [List.mem_append, not_or]; exact ⟨q4, fun h => hr10 (List.mem_of_mem_tail h)⟩)
            refine ⟨ih.1, ?_⟩
            have h2 := ih.2
            rw [weight_snoc] at h2 ⊢
            rw [List.length_append, List.length_tail] at h2
            omega
        · rw [if_neg hB] at h
          have ih := unf_inv f _ _ ls h (by
            intro l hl
            rcases List.mem_append.1 hl with hl | hl
            · exact hg l hl
            · obtain rfl := List.mem_singleton.1 hl
              exact ⟨hr0, hB, hr13, hr10⟩)
          refine ⟨ih.1, ?_⟩
          have h2 := ih.2
          rw [weight_snoc] at h2
          omega
end Go.Proofs.YtpjidedgifjgeaaDoor.Un
