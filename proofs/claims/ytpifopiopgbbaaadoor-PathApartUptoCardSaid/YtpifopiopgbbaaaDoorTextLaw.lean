/- The document's Text is the package's text. -/
import Derived.Test.YtpifopiopgbbaaaDoorValidLaw
import Derived.Test.YtpifopiopgbbaaaDoorPfx4
namespace Go.Proofs.YtpifopiopgbbaaaDoor.Pf
open Go.RowKit Go.Proofs.YtpifopiopgbbaaaDoorW.PrintWords Pc
open By (L size_L L_mk mk_L L_inj L_extract L_to L_from wrap_in)
set_option linter.unusedSimpArgs false

def hx (c : UInt8) : Int := if hexv c < 0 then 16 else hexv c
set_option maxRecDepth 100000 in
theorem hex_any (c : UInt8) : Ev (fun k => calepinref06_hex.f k (c.toNat : Int)) (hx c) := by
  refine Ev.of (calepinref06_hex.mono _) (k := 2) ?_
  have key : ∀ X : Fin 256, calepinref06_hex.f 2 ((X.val : Nat) : Int) = some (hx (UInt8.ofNat X.val)) := of_decide_eq_true (by kernel_rfl)
  have h := key ⟨c.toNat, c.toNat_lt⟩
  simpa only [UInt8.ofNat_toNat] using h
set_option maxRecDepth 100000 in
theorem bare_f (c : UInt8) : calepinref06_bare.f (c.toNat : Int) = some (bare c) := by
  have key : ∀ X : Fin 256, calepinref06_bare.f ((X.val : Nat) : Int) = some (bare (UInt8.ofNat X.val)) := of_decide_eq_true (by kernel_rfl)
  have h := key ⟨c.toNat, c.toNat_lt⟩
  simpa only [UInt8.ofNat_toNat] using h
set_option maxRecDepth 100000 in
theorem hex_byte (h k : UInt8) (h0 : ¬ hexv h < 0) (k0 : ¬ hexv k < 0) : wrap64 (wrap64 (16 * hx h) + hx k) % 256 = ((hexb h k).toNat : Int) := by
  have key : ∀ X Y : Fin 16, wrap64 (wrap64 (16 * ((X.val : Nat) : Int)) + ((Y.val : Nat) : Int)) % 256 = ((UInt8.ofNat (16 * X.val + Y.val)).toNat : Int) := of_decide_eq_true (by kernel_rfl)
  have hh := hexv_range h
  have hk := hexv_range k
  obtain ⟨x, hx'⟩ : ∃ x : Nat, hexv h = x := ⟨(hexv h).toNat, by omega⟩
  obtain ⟨y, hy'⟩ : ∃ y : Nat, hexv k = y := ⟨(hexv k).toNat, by omega⟩
  have x16 : x < 16 := by omega
  have y16 : y < 16 := by omega
  unfold hexb hx
  rw [if_neg h0, if_neg k0, hx', hy']
  exact key ⟨x, x16⟩ ⟨y, y16⟩
def ints (l : Bs) : List Int := l.map fun b => (b.toNat : Int)
theorem ints_snoc (l : Bs) (c : UInt8) : ints l ++ [(c.toNat : Int)] = ints (l ++ [c]) := by simp [ints]
theorem ints_str (l : Bs) : strOfNums (ints l) = ⟨l.toArray⟩ := by
  apply ByteArray.ext
  apply Array.toList_inj.1
  rw [strOfNums_data, ints, List.map_map]
  conv => rhs; rw [← List.map_id l]
  exact List.map_congr_left fun b _ => by simp
def refOut (o : Option Bs) : ByteArray × Bool :=
  match o with
  | some b => (⟨b.toArray⟩, fitsB ⟨b.toArray⟩)
  | none => (⟨#[]⟩, false)
theorem bt_app (s : ByteArray) (A : Bs) (b : UInt8) (B : Bs) (h : L s = A ++ b :: B) : bt s (A.length : Int) = b.toNat := bt_at s A.length b B (by rw [h]; simp)
theorem text_loop (s : ByteArray) (hs : s.size ≤ 1073741824) : ∀ (n : Nat) (A B acc : Bs), B.length ≤ n → L s = A ++ B → acc.length ≤ A.length →
    Ev (fun k => calepinref06_Text.l0 k s (ints acc) (A.length : Int)) (refOut ((textL B).map (acc ++ ·))) := by
  intro n
  induction n with
  | zero =>
    intro A B acc hn hL ha
    obtain rfl : B = [] := List.eq_nil_of_length_eq_zero (by omega)
    have hz : s.size = A.length := by rw [size_L, hL]; simp
    refine Ev.k1 ?_
    have g : ¬ (A.length : Int) < (s.size : Int) := by omega
    simp only [calepinref06_Text.l0, g, if_false, ints_str]
    refine Ev.bind (refFits_any _ (by rw [size_mk]; omega)) ?_
    have e : (textL []).map (acc ++ ·) = some acc := by simp [textL]
    rw [e]
    exact Ev.now _
  | succ n ih =>
    intro A B acc hn hL ha
    have hz : s.size = A.length + B.length := by rw [size_L, hL]; simp
    match B, hn, hL, hz with
    | [], _, hL, hz =>
      refine Ev.k1 ?_
      have g : ¬ (A.length : Int) < (s.size : Int) := by simp at hz; omega
      simp only [calepinref06_Text.l0, g, if_false, ints_str]
      refine Ev.bind (refFits_any _ (by rw [size_mk]; omega)) ?_
      have e : (textL []).map (acc ++ ·) = some acc := by simp [textL]
      rw [e]
      exact Ev.now _
    | c :: l, hn, hL, hz =>
      have hz' : s.size = A.length + (l.length + 1) := hz
      have hn' : l.length ≤ n := by simp at hn; omega
      refine Ev.k1 ?_
      have g : (A.length : Int) < (s.size : Int) := by omega
      have g0 : (0 : Int) ≤ (A.length : Int) := by omega
      have hb := bt_app s A c l hL
      have e37 : ((c.toNat : Int) = 37) = (c = 37) := toNat_eq c 37
      by_cases hc : c = 37
      · have hw2 : wrap64 ((A.length : Int) + 2) = ((A.length + 2 : Nat) : Int) := by rw [wrap_in (by omega) (by omega)]; rfl
        have hw1 := wrap_succ (n := A.length) (by clear hw2; omega)
        have hj : ∀ r : ByteArray × Bool, r = (⟨#[]⟩, false) → Ev (fun k => calepinref06_Text.j1 k s (ints acc) (A.length : Int) true) r := by
          rintro r rfl
          refine Ev.k1 ?_
          simp only [calepinref06_Text.j1, if_true]
          exact Ev.now _
        by_cases hl : l.length < 2
        · have g2 : ((A.length + 2 : Nat) : Int) ≥ (s.size : Int) := by clear hw1 hw2; omega
          simp only [calepinref06_Text.l0, g, g0, hb, e37, hc, hw2, g2, if_true]
          exact hj _ (by rw [textL_cons37_short l hl]; rfl)
        · have g2 : ¬ ((A.length + 2 : Nat) : Int) ≥ (s.size : Int) := by clear hw1 hw2; omega
          obtain ⟨h, k, m, hm⟩ : ∃ h k m, l = h :: k :: m := by
            match l, hl with
            | h :: k :: m, _ => exact ⟨h, k, m, rfl⟩
            | [], hl => exact absurd (by simp) hl
            | [x], hl => exact absurd (by simp) hl
          subst hm
          subst hc
          have hb1 : bt s ((A.length + 1 : Nat) : Int) = h.toNat := by
            have := bt_app s (A ++ [37]) h (k :: m) (by rw [hL]; simp)
            rwa [List.length_append] at this
          have hb2 : bt s ((A.length + 2 : Nat) : Int) = k.toNat := by
            have := bt_app s (A ++ [37, h]) k m (by rw [hL]; simp)
            rwa [List.length_append] at this
          have hz2 : s.size = A.length + (m.length + 3) := by simp at hz'; omega
          have g3 : (0 : Int) ≤ ((A.length + 1 : Nat) : Int) := by clear hw1 hw2; omega
          have g4 : ((A.length + 1 : Nat) : Int) < (s.size : Int) := by clear hw1 hw2; omega
          have g5 : (0 : Int) ≤ ((A.length + 2 : Nat) : Int) := by clear hw1 hw2; omega
          have g6 : ((A.length + 2 : Nat) : Int) < (s.size : Int) := by clear hw1 hw2; omega
          simp only [calepinref06_Text.l0, g, g0, hb, e37, hw2, hw1, g2, g3, g4, g5, g6, if_true, if_false, hb1, hb2]
          refine Ev.bind (hex_any h) ?_
          rw [textL_cons37]
          have hr := hexv_range h
          have kr := hexv_range k
          by_cases q1 : hexv h < 0
          · have d1 : hx h > 15 := by unfold hx; rw [if_pos q1]; decide
            simp only [d1, if_true]
            rw [if_pos (.inl q1)]
            exact hj _ rfl
          · have d1 : ¬ hx h > 15 := by unfold hx; rw [if_neg q1]; clear hw1 hw2; omega
            simp only [d1, if_false]
            refine Ev.bind (hex_any k) ?_
            by_cases q2 : hexv k < 0
            · have d2 : hx k > 15 := by unfold hx; rw [if_pos q2]; decide
              simp only [d2, decide_true]
              rw [if_pos (.inr q2)]
              exact hj _ rfl
            · have d2 : ¬ hx k > 15 := by unfold hx; rw [if_neg q2]; clear hw1 hw2; omega
              simp only [d2, decide_false]
              rw [if_neg (fun e => e.elim q1 q2)]
              refine Ev.k1 ?_
              simp only [calepinref06_Text.j1, Bool.false_eq_true, if_false, hw1, hw2, g3, g4, g5, g6, if_true, hb1, hb2]
              refine Ev.bind (hex_any h) ?_
              refine Ev.bind (hex_any k) ?_
              have g7 : (ints acc).length < 140737488355328 := by unfold ints; rw [List.length_map]; clear hw1 hw2; omega
              have hw3 := wrap_succ (n := A.length + 2) (by clear hw1 hw2; omega)
              simp only [g7, if_true, hex_byte h k q1 q2, ints_snoc, hw3]
              clear hw1 hw2 hw3
              have hi := ih (A ++ [37, h, k]) m (acc ++ [hexb h k]) (by simp at hn'; omega) (by rw [hL]; simp) (by simp; omega)
              have e1 : (A ++ [37, h, k]).length = A.length + 2 + 1 := by simp
              rw [e1] at hi
              rw [Option.map_map]
              have e2 : (fun x => (acc ++ [hexb h k]) ++ x) = (fun x => acc ++ x) ∘ (fun x => hexb h k :: x) := by funext x; simp
              rw [e2] at hi
              exact hi
      · simp only [calepinref06_Text.l0, g, g0, hb, e37, hc, if_true, if_false, bare_f, Option.bind_some]
        rw [textL_cons c l hc]
        by_cases hbc : bare c = true
        · have g7 : (ints acc).length < 140737488355328 := by unfold ints; rw [List.length_map]; omega
          have hw1 := wrap_succ (n := A.length) (by omega)
          simp only [hbc, if_true, g7, ints_snoc, hw1]
          clear hw1
          have hi := ih (A ++ [c]) l (acc ++ [c]) hn' (by rw [hL]; simp) (by simp; omega)
          have e1 : (A ++ [c]).length = A.length + 1 := by simp
          rw [e1] at hi
          rw [Option.map_map]
          have e2 : (fun x => (acc ++ [c]) ++ x) = (fun x => acc ++ x) ∘ (fun x => c :: x) := by funext x; simp
          rw [e2] at hi
          exact hi
        · simp only [hbc, Bool.false_eq_true, if_false]
          exact Ev.now _
theorem refText_any (s : ByteArray) (hs : s.size ≤ 1073741824) : Ev (fun k => calepinref06_Text.f k s) (refOut (textL (L s))) := by
  have := text_loop s hs (L s).length [] (L s) [] (Nat.le_refl _) rfl (Nat.le_refl _)
  have e : (textL (L s)).map ([] ++ ·) = textL (L s) := by cases textL (L s) <;> rfl
  rw [e] at this
  exact this
end Go.Proofs.YtpifopiopgbbaaaDoor.Pf
