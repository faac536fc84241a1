/- path.Parse and the document's Parse, plain: both are one list function. -/
import Derived.Test.YtpifopiopgbbaaaDoorTextLaw
import Derived.Test.YtpifopiopgbbaaaDoorPfx1
import Derived.Test.YtpifopiopgbbaaaDoorPfx5
namespace Go.Proofs.YtpifopiopgbbaaaDoor.Pf
open Go.RowKit Go.Proofs.YtpifopiopgbbaaaDoorW.PrintWords Pc
open By (L size_L L_mk mk_L L_inj L_extract L_to L_from wrap_in)
set_option linter.unusedSimpArgs false

theorem index_no (c : UInt8) (l : Bs) (h : c ∉ l) : Lib.index l [c] = -1 := by
  rw [Lib.index_one]
  induction l with
  | nil => rfl
  | cons b l ih =>
    simp only [List.mem_cons, not_or] at h
    have hb : (b == c) = false := beq_eq_false_iff_ne.2 (Ne.symm h.1)
    have := ih h.2
    simp [Lib.indexByte, hb, this]
theorem index_at (c : UInt8) {a : Bs} (b : Bs) (h : c ∉ a) : Lib.index (a ++ c :: b) [c] = a.length := by
  rw [Lib.index_one]
  induction a with
  | nil => simp [Lib.indexByte]
  | cons x a ih =>
    simp only [List.mem_cons, not_or] at h
    have hb : (x == c) = false := beq_eq_false_iff_ne.2 (Ne.symm h.1)
    have := ih h.2
    have hne : ¬ ((a.length : Int) = -1) := by omega
    simp [Lib.indexByte, hb, this, hne]
abbrev slash : ByteArray := ⟨#[47]⟩
theorem pieces_no (s : ByteArray) (h : (47 : UInt8) ∉ L s) : pieces s slash = [s] := by
  have hi : Lib.indexB s slash = -1 := index_no 47 (L s) h
  unfold pieces
  rw [Lib.countB_miss _ _ hi, Lib.splitB_zero]
theorem pieces_at (s : ByteArray) (A B : Bs) (hL : L s = A ++ 47 :: B) (h : (47 : UInt8) ∉ A) : pieces s slash = ⟨A.toArray⟩ :: pieces ⟨B.toArray⟩ slash := by
  have hi : Lib.indexB s slash = (A.length : Int) := by
    show Lib.index (L s) [47] = _
    rw [hL]; exact index_at 47 B h
  have h1 : s.extract 0 (A.length + 0) = ⟨A.toArray⟩ := eq_of_L (by rw [L_extract, hL]; simp)
  have h2 : s.extract (A.length + slash.size) s.size = ⟨B.toArray⟩ := eq_of_L (by
    rw [L_to, hL]
    show (A ++ 47 :: B).drop (A.length + 1) = B
    have : A ++ 47 :: B = (A ++ [47]) ++ B := by simp
    rw [this]
    have e : A.length + 1 = (A ++ [47]).length := by simp
    rw [e, List.drop_left])
  unfold pieces
  rw [Lib.countB_hit s slash A.length (by decide) hi, h2, Nat.add_comm 1, Lib.splitB_hit slash 0 _ s A.length hi, h1, h2]
theorem pieces_ne (s : ByteArray) : 1 ≤ (pieces s slash).length := by
  have : (pieces s slash).length = Lib.countB s slash + 1 := Lib.splitB_all slash (by decide) 0 _ s rfl
  omega

def okText (a : Bs) : Option Bs := match textL a with | some b => if fitsB ⟨b.toArray⟩ then some b else none | none => none
theorem textOut_ok (a : Bs) : textOut (textL a) = match okText a with | some b => (⟨b.toArray⟩, 0) | none => (⟨#[]⟩, 60) := by
  unfold textOut okText
  cases textL a with
  | none => rfl
  | some b =>
    by_cases h : fitsB ⟨b.toArray⟩ = true
    · simp [h]
    · simp [h]
theorem refOut_ok (a : Bs) : (okText a = none ∧ (refOut (textL a)).2 = false) ∨ (∃ b, okText a = some b ∧ refOut (textL a) = (⟨b.toArray⟩, true)) := by
  unfold refOut okText
  cases textL a with
  | none => exact .inl ⟨rfl, rfl⟩
  | some b =>
    by_cases h : fitsB ⟨b.toArray⟩ = true
    · exact .inr ⟨b, by simp [h], by simp [h]⟩
    · exact .inl ⟨by simp [h], by simpa using h⟩
def cutAt : Bs → Option (Bs × Bs)
  | [] => none
  | b :: l => if b = 47 then some ([], l) else (cutAt l).map fun p => (b :: p.1, p.2)
theorem cutAt_no : ∀ {l : Bs}, (47 : UInt8) ∉ l → cutAt l = none
  | [], _ => rfl
  | b :: l, h => by
    simp only [List.mem_cons, not_or] at h
    unfold cutAt
    rw [if_neg (Ne.symm h.1), cutAt_no h.2]; rfl
theorem cutAt_yes : ∀ {a : Bs} (b : Bs), (47 : UInt8) ∉ a → cutAt (a ++ 47 :: b) = some (a, b)
  | [], b, _ => by simp [cutAt]
  | x :: a, b, h => by
    simp only [List.mem_cons, not_or] at h
    rw [List.cons_append]
    unfold cutAt
    rw [if_neg (Ne.symm h.1), cutAt_yes b h.2]; rfl
/-- The parts of a path; the second: a collection's has none. -/
def parts (a b : Bs) : Option (Bs × Bs) :=
  match okText a with
  | none => none
  | some x => if b = [] then some (x, []) else match okText b with | none => none | some y => some (x, y)
def parseS (l : Bs) : Option (Bs × Bs) :=
  if l = [47] then some ([], []) else match l with
    | [] => none
    | c :: r => if c = 47 then (match cutAt r with | some p => parts p.1 p.2 | none => none) else none
def pOut : Option (Bs × Bs) → ByteArray × ByteArray × Int
  | some p => (⟨p.1.toArray⟩, ⟨p.2.toArray⟩, 0)
  | none => (⟨#[]⟩, ⟨#[]⟩, 60)
def rOut : Option (Bs × Bs) → ByteArray × ByteArray × Bool
  | some p => (⟨p.1.toArray⟩, ⟨p.2.toArray⟩, true)
  | none => (⟨#[]⟩, ⟨#[]⟩, false)
theorem parseS_other {l : Bs} (h1 : l ≠ [47]) (h : l.head? ≠ some 47) : parseS l = none := by
  unfold parseS
  rw [if_neg h1]
  match l, h with
  | [], _ => rfl
  | c :: r, h =>
    have hc : ¬ c = 47 := fun e => h (by rw [e]; rfl)
    simp only [hc, if_false]
theorem parseS_slash (r : Bs) (h : r ≠ []) : parseS (47 :: r) = match cutAt r with | some p => parts p.1 p.2 | none => none := by
  unfold parseS
  rw [if_neg (fun e => h (List.cons.inj e).2)]
  simp only [if_true]
theorem hexv_47 : hexv 47 < 0 := by decide
theorem bare_47 : bare 47 = false := by decide
theorem textL_47 : ∀ (n : Nat) (l : Bs), l.length ≤ n → (47 : UInt8) ∈ l → textL l = none := by
  intro n
  induction n with
  | zero =>
    intro l hn h
    have h0 : l = [] := List.eq_nil_of_length_eq_zero (by omega)
    rw [h0] at h; cases h
  | succ n ih =>
    intro l hn h
    match l, hn, h with
    | c :: l, hn, h =>
      have hn' : l.length ≤ n := by simp at hn; omega
      by_cases hc : c = 37
      · subst hc
        have h' : (47 : UInt8) ∈ l := by simpa using h
        match l, hn', h' with
        | [x], _, _ => exact textL_cons37_short [x] (by simp)
        | x :: k :: m, hn', h' =>
          rw [textL_cons37]
          by_cases q : hexv x < 0 ∨ hexv k < 0
          · rw [if_pos q]
          · rw [if_neg q]
            have hm : (47 : UInt8) ∈ m := by
              simp only [List.mem_cons] at h'
              rcases h' with rfl | rfl | h'
              · exact absurd (.inl hexv_47) q
              · exact absurd (.inr hexv_47) q
              · exact h'
            rw [ih m (by simp at hn'; omega) hm]; rfl
      · rw [textL_cons c l hc]
        by_cases hb : bare c = true
        · rw [if_pos hb]
          have hl : (47 : UInt8) ∈ l := by
            rcases List.mem_cons.1 h with rfl | h
            · rw [bare_47] at hb; cases hb
            · exact h
          rw [ih l hn' hl]; rfl
        · rw [if_neg hb]
theorem parts_47 (a b : Bs) (h : (47 : UInt8) ∈ b) : parts a b = none := by
  unfold parts
  cases okText a with
  | none => rfl
  | some x =>
    have hb : b ≠ [] := by intro e; rw [e] at h; cases h
    have ho : okText b = none := by unfold okText; rw [textL_47 b.length b (Nat.le_refl _) h]
    simp only [hb, if_false, ho]
theorem text_f (a : Bs) (h : a.length ≤ 1073741824) : path_text.f ⟨a.toArray⟩ = some (textOut (textL a)) := by
  unfold path_text.f
  rw [if_pos (by rw [size_mk]; exact h), L_mk]
theorem j0_err (t : List ByteArray) : Ev (fun k => path_Parse.j0 k t true) (pOut none) := by
  refine Ev.k1 ?_
  simp only [path_Parse.j0, if_true]
  exact Ev.now _
theorem parse_any (s : ByteArray) (hs : s.size ≤ 1073741824) : Ev (fun k => path_Parse.f k s) (pOut (parseS (L s))) := by
  unfold path_Parse.f
  have htl : s.toList = L s := By.toList_L s
  rw [htl]
  by_cases h1 : L s = [47]
  · simp only [h1, if_true]
    unfold parseS
    rw [if_pos rfl]
    exact Ev.now _
  · simp only [h1, if_false]
    have hsp : strings_Split.f s slash = some (pieces s slash) := by
      unfold strings_Split.f
      rw [if_pos ⟨by omega, by decide⟩]
    rw [hsp]
    simp only [Option.bind_some]
    by_cases h47 : (47 : UInt8) ∈ L s
    · obtain ⟨A, B, hL, hA⟩ := List.eq_append_cons_of_mem h47
      rw [pieces_at s A B hL hA]
      match A, hL, hA with
      | x :: A, hL, hA =>
        have hx : ¬ x = 47 := fun e => hA (by rw [e]; exact List.mem_cons_self)
        have e : parseS (L s) = none := parseS_other h1 (by rw [hL]; simpa using hx)
        rw [e]
        have hne : ((rdOf ByteArray.empty ((⟨(x :: A).toArray⟩ : ByteArray) :: pieces ⟨B.toArray⟩ slash) 0).toList != ([] : List UInt8)) = true := by
          show ((⟨(x :: A).toArray⟩ : ByteArray).toList != []) = true
          rw [By.toList_L, L_mk]; rfl
        by_cases h3 : ((((⟨(x :: A).toArray⟩ : ByteArray) :: pieces ⟨B.toArray⟩ slash).length : Nat) : Int) = 3
        · have h0 : (0 : Int) < ((((⟨(x :: A).toArray⟩ : ByteArray) :: pieces ⟨B.toArray⟩ slash).length : Nat) : Int) := by rw [h3]; decide
          simp only [h3, h0, hne, if_true]
          exact j0_err _
        · simp only [h3, if_false]
          exact j0_err _
      | [], hL, hA =>
        have hL' : L s = 47 :: B := hL
        have hBn : B ≠ [] := fun e => h1 (by rw [hL', e])
        rw [hL', parseS_slash B hBn]
        by_cases hB : (47 : UInt8) ∈ B
        · obtain ⟨a, b, hab, ha⟩ := List.eq_append_cons_of_mem hB
          rw [pieces_at ⟨B.toArray⟩ a b (by rw [L_mk]; exact hab) ha, hab, cutAt_yes b ha]
          by_cases hb : (47 : UInt8) ∈ b
          · obtain ⟨c, d, hcd, hc⟩ := List.eq_append_cons_of_mem hb
            rw [pieces_at ⟨b.toArray⟩ c d (by rw [L_mk]; exact hcd) hc]
            have := pieces_ne ⟨d.toArray⟩
            have h3 : ¬ ((((⟨#[]⟩ : ByteArray) :: (⟨a.toArray⟩ : ByteArray) :: (⟨c.toArray⟩ : ByteArray) :: pieces ⟨d.toArray⟩ slash).length : Nat) : Int) = 3 := by simp only [List.length_cons]; omega
            show Ev (fun k => if ((((⟨#[]⟩ : ByteArray) :: (⟨a.toArray⟩ : ByteArray) :: (⟨c.toArray⟩ : ByteArray) :: pieces ⟨d.toArray⟩ slash).length : Nat) : Int) = 3 then _ else _) _
            simp only [h3, if_false]
            rw [parts_47 a b hb]
            exact j0_err _
          · rw [pieces_no ⟨b.toArray⟩ (by rw [L_mk]; exact hb)]
            have hlen : a.length + b.length ≤ 1073741824 := by
              have := hs
              rw [size_L, hL', hab] at this
              simp at this; omega
            have q3 : ((([(⟨#[]⟩ : ByteArray), ⟨a.toArray⟩, ⟨b.toArray⟩].length : Nat)) : Int) = 3 := rfl
            have q0 : (0 : Int) < ((([(⟨#[]⟩ : ByteArray), ⟨a.toArray⟩, ⟨b.toArray⟩].length : Nat)) : Int) := by show (0 : Int) < 3; decide
            have qe : ((rdOf ByteArray.empty [(⟨#[]⟩ : ByteArray), ⟨a.toArray⟩, ⟨b.toArray⟩] 0).toList != ([] : List UInt8)) = false := by
              show ((⟨#[]⟩ : ByteArray).toList != ([] : List UInt8)) = false
              rw [By.toList_L]; rfl
            show Ev (fun k => if ((([(⟨#[]⟩ : ByteArray), ⟨a.toArray⟩, ⟨b.toArray⟩].length : Nat)) : Int) = 3 then (if (0 : Int) < ((([(⟨#[]⟩ : ByteArray), ⟨a.toArray⟩, ⟨b.toArray⟩].length : Nat)) : Int) then (path_Parse.j0 k [(⟨#[]⟩ : ByteArray), ⟨a.toArray⟩, ⟨b.toArray⟩] ((rdOf ByteArray.empty [(⟨#[]⟩ : ByteArray), ⟨a.toArray⟩, ⟨b.toArray⟩] 0).toList != ([] : List UInt8))) else none) else path_Parse.j0 k [(⟨#[]⟩ : ByteArray), ⟨a.toArray⟩, ⟨b.toArray⟩] true) (pOut (parts a b))
            simp only [q3, q0, qe, if_true]
            refine Ev.k1 ?_
            have g1 : (1 : Int) < ((([(⟨#[]⟩ : ByteArray), ⟨a.toArray⟩, ⟨b.toArray⟩].length : Nat)) : Int) := by show (1 : Int) < 3; decide
            have g2 : (2 : Int) < ((([(⟨#[]⟩ : ByteArray), ⟨a.toArray⟩, ⟨b.toArray⟩].length : Nat)) : Int) := by show (2 : Int) < 3; decide
            have r1 : rdOf ByteArray.empty [(⟨#[]⟩ : ByteArray), ⟨a.toArray⟩, ⟨b.toArray⟩] 1 = ⟨a.toArray⟩ := rfl
            have r2 : rdOf ByteArray.empty [(⟨#[]⟩ : ByteArray), ⟨a.toArray⟩, ⟨b.toArray⟩] 2 = ⟨b.toArray⟩ := rfl
            simp only [path_Parse.j0, Bool.false_eq_true, if_false, g1, g2, if_true, r1, r2, text_f a (by omega), Option.bind_some, textOut_ok]
            unfold parts
            cases hoa : okText a with
            | none =>
              have : ¬ ((60 : Int) = 0) := by decide
              simp only [this, if_false]
              refine Ev.k1 ?_
              simp only [path_Parse.j1, if_true]
              exact Ev.now _
            | some x =>
              simp only [if_true]
              have hbl : ((⟨b.toArray⟩ : ByteArray).toList == ([] : List UInt8)) = decide (b = []) := by
                rw [By.toList_L, L_mk]; cases b <;> rfl
              rw [hbl]
              by_cases hb0 : b = []
              · simp only [hb0, decide_true, if_true]
                refine Ev.k1 ?_
                simp only [path_Parse.j1, if_true]
                exact Ev.now _
              · simp only [hb0, decide_false, if_false]
                refine Ev.k1 ?_
                simp only [path_Parse.j1, Bool.false_eq_true, if_false, g2, if_true, r2, text_f b (by omega), Option.bind_some, textOut_ok]
                cases hob : okText b with
                | none =>
                  have : ¬ ((60 : Int) = 0) := by decide
                  simp only [this, if_false]
                  exact Ev.now _
                | some y =>
                  simp only [if_true]
                  exact Ev.now _
        · rw [pieces_no ⟨B.toArray⟩ (by rw [L_mk]; exact hB), cutAt_no hB]
          exact j0_err _
    · rw [pieces_no s h47]
      have e : parseS (L s) = none := parseS_other h1 (fun e => h47 (List.mem_of_mem_head? e))
      rw [e]
      exact j0_err _
end Go.Proofs.YtpifopiopgbbaaaDoor.Pf
