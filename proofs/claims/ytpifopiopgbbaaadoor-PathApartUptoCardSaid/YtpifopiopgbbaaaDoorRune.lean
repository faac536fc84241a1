/- The document's Rune and Size, printed: they part a text into characters just as Go's decoder does. -/
import Derived.Test.YtpifopiopgbbaaaDoorBytes
import Derived.Test.YtpifopiopgbbaaaDoorPfx2
namespace Go.Proofs.YtpifopiopgbbaaaDoor.Pf
open Go.RowKit Go.Proofs.YtpifopiopgbbaaaDoorW.PrintWords
open By (L size_L L_mk mk_L L_inj L_extract L_to L_from wrap_in)
open Ch (Bs at_)

theorem eq_of_L {s : ByteArray} {l : List UInt8} (h : L s = l) : s = ⟨l.toArray⟩ := by rw [← h, mk_L]
theorem Ev.k1 {α : Type} {g : Nat → Option α} {r : α} (h : Ev (fun k => g (k + 1)) r) : Ev g r := Ev.step (fun _ => rfl) h
theorem size_mk (l : Bs) : (⟨l.toArray⟩ : ByteArray).size = l.length := by rw [size_L, L_mk]
theorem wrap_succ {n : Nat} (h : n < 9223372036854775807) : wrap64 ((n : Int) + 1) = ((n + 1 : Nat) : Int) := by
  rw [wrap_in (by omega) (by omega)]; rfl
theorem bt_at (s : ByteArray) (i : Nat) (b : UInt8) (l : Bs) (h : (L s).drop i = b :: l) : bt s (i : Int) = b.toNat := by
  rw [By.bt_L]
  have : (L s)[i]? = some b := by
    have := congrArg (·[0]?) h
    simpa using this
  rw [List.getD_eq_getElem?_getD, this]; rfl
theorem toNat_eq (b c : UInt8) : ((b.toNat : Int) = (c.toNat : Int)) = (b = c) := propext ⟨fun h => UInt8.toNat_inj.1 (by omega), fun h => by rw [h]⟩

def fin (b n least : Int) : Int × Int := if b < least then (0, 0) else if b > 1114111 then (0, 0) else if b ≥ 55296 then (if b ≤ 57343 then (0, 0) else (b, n)) else (b, n)
def bad (c : Int) : Prop := c < 128 ∨ 191 < c
instance (c : Int) : Decidable (bad c) := inferInstanceAs (Decidable (_ ∨ _))
/-- The document's Rune of a text of n bytes that begins b0 b1 b2 b3. -/
def runeP (n : Nat) (b0 b1 b2 b3 : Int) : Int × Int :=
  if b0 < 128 then (b0, 1)
  else if 192 ≤ b0 ∧ b0 < 224 then (if n < 2 ∨ bad b1 then (0, 0) else fin (64 * (b0 - 192) + b1 - 128) 2 128)
  else if 224 ≤ b0 ∧ b0 < 240 then (if n < 3 ∨ bad b1 ∨ bad b2 then (0, 0) else fin (64 * (64 * (b0 - 224) + b1 - 128) + b2 - 128) 3 2048)
  else if 240 ≤ b0 ∧ b0 < 248 then (if n < 4 ∨ bad b1 ∨ bad b2 ∨ bad b3 then (0, 0) else fin (64 * (64 * (64 * (b0 - 240) + b1 - 128) + b2 - 128) + b3 - 128) 4 65536)
  else (0, 0)
theorem bt_byte (s : ByteArray) (i : Int) : wrap64 (bt s i) = bt s i := by
  have := bt_range s i
  exact wrap_in (by omega) (by omega)
theorem rune_end (s : ByteArray) (b n least : Int) (j : Nat) (hj : ¬ (j : Int) < n) : Ev (fun k => calepinref01_Rune.l0 k s b n least (j : Int)) (fin b n least) := by
  refine Ev.k1 ?_
  simp only [calepinref01_Rune.l0, hj, if_false]
  refine Ev.congr (f := fun _ => some (fin b n least)) (fun k => ?_) (Ev.now _)
  unfold fin
  repeat' split
  all_goals rfl
theorem rune_next (s : ByteArray) (b n least : Int) (j : Nat) (r : Int × Int) (hj : (j : Int) < n) (hn : n ≤ s.size) (hb : 0 ≤ b ∧ b ≤ 10000000) (hjj : j ≤ 4)
    (h0 : bad (bt s j) → r = (0, 0)) (h1 : ¬ bad (bt s j) → Ev (fun k => calepinref01_Rune.l0 k s (64 * b + bt s j - 128) n least ((j + 1 : Nat) : Int)) r) : Ev (fun k => calepinref01_Rune.l0 k s b n least (j : Int)) r := by
  refine Ev.k1 ?_
  have g0 : (0 : Int) ≤ (j : Int) := by omega
  have g1 : (j : Int) < (s.size : Int) := by omega
  have hr := bt_range s j
  simp only [calepinref01_Rune.l0, hj, g0, g1, if_true, bt_byte]
  have w1 : wrap64 ((wrap64 (wrap64 (64 * b) + bt s j)) - 128) = 64 * b + bt s j - 128 := by
    rw [wrap_in (x := 64 * b) (by omega) (by omega), wrap_in (x := 64 * b + bt s j) (by omega) (by omega), wrap_in (by omega) (by omega)]
  have w2 := wrap_succ (n := j) (by omega)
  rw [w1, w2]
  clear w1 w2
  by_cases c1 : bt s j < 128
  · rw [h0 (.inl c1)]
    simp only [c1, if_true]
    exact Ev.now _
  · by_cases c2 : bt s j > 191
    · rw [h0 (.inr c2)]
      simp only [c1, c2, if_true, if_false]
      exact Ev.now _
    · simp only [c1, c2, if_false]
      exact h1 (by unfold bad; omega)
theorem rune_j2 (s : ByteArray) (b n least : Int) (r : Int × Int) (h0 : (s.size : Int) < n → r = (0, 0)) (h1 : ¬ (s.size : Int) < n → Ev (fun k => calepinref01_Rune.l0 k s b n least ((1 : Nat) : Int)) r) :
    Ev (fun k => calepinref01_Rune.j2 k s b n least) r := by
  refine Ev.k1 ?_
  by_cases h : (s.size : Int) < n
  · simp only [calepinref01_Rune.j2, h, if_true]
    rw [h0 h]
    exact Ev.now _
  · simp only [calepinref01_Rune.j2, h, if_false]
    exact h1 h
theorem rune_2 (s : ByteArray) (b : Int) (hb : 192 ≤ b ∧ b < 224) : Ev (fun k => calepinref01_Rune.j2 k s (wrap64 (b - 192)) 2 128) (if s.size < 2 ∨ bad (bt s 1) then (0, 0) else fin (64 * (b - 192) + bt s 1 - 128) 2 128) := by
  have r1 := bt_range s 1
  rw [wrap_in (by omega) (by omega)]
  refine rune_j2 s _ _ _ _ (fun h => by rw [if_pos (.inl (by omega))]) (fun h => ?_)
  refine rune_next s _ _ _ 1 _ (by omega) (by omega) (by omega) (by omega) (fun c => by rw [if_pos (.inr c)]) (fun c => ?_)
  rw [if_neg (by rintro (q | q); omega; exact c q)]
  exact rune_end s _ _ _ 2 (by omega)
theorem rune_3 (s : ByteArray) (b : Int) (hb : 224 ≤ b ∧ b < 240) : Ev (fun k => calepinref01_Rune.j2 k s (wrap64 (b - 224)) 3 2048) (if s.size < 3 ∨ bad (bt s 1) ∨ bad (bt s 2) then (0, 0) else fin (64 * (64 * (b - 224) + bt s 1 - 128) + bt s 2 - 128) 3 2048) := by
  have r1 := bt_range s 1
  have r2 := bt_range s 2
  rw [wrap_in (by omega) (by omega)]
  refine rune_j2 s _ _ _ _ (fun h => by rw [if_pos (.inl (by omega))]) (fun h => ?_)
  refine rune_next s _ _ _ 1 _ (by omega) (by omega) (by omega) (by omega) (fun c => by rw [if_pos (.inr (.inl c))]) (fun c => ?_)
  refine rune_next s _ _ _ 2 _ (by omega) (by omega) (by unfold bad at c; omega) (by omega) (fun c => by rw [if_pos (.inr (.inr c))]) (fun c2 => ?_)
  rw [if_neg (by rintro (q | q | q); omega; exact c q; exact c2 q)]
  exact rune_end s _ _ _ 3 (by omega)
theorem rune_4 (s : ByteArray) (b : Int) (hb : 240 ≤ b ∧ b < 248) : Ev (fun k => calepinref01_Rune.j2 k s (wrap64 (b - 240)) 4 65536) (if s.size < 4 ∨ bad (bt s 1) ∨ bad (bt s 2) ∨ bad (bt s 3) then (0, 0) else fin (64 * (64 * (64 * (b - 240) + bt s 1 - 128) + bt s 2 - 128) + bt s 3 - 128) 4 65536) := by
  have r1 := bt_range s 1
  have r2 := bt_range s 2
  have r3 := bt_range s 3
  rw [wrap_in (by omega) (by omega)]
  refine rune_j2 s _ _ _ _ (fun h => by rw [if_pos (.inl (by omega))]) (fun h => ?_)
  refine rune_next s _ _ _ 1 _ (by omega) (by omega) (by omega) (by omega) (fun c => by rw [if_pos (.inr (.inl c))]) (fun c => ?_)
  refine rune_next s _ _ _ 2 _ (by omega) (by omega) (by unfold bad at c; omega) (by omega) (fun c => by rw [if_pos (.inr (.inr (.inl c)))]) (fun c2 => ?_)
  refine rune_next s _ _ _ 3 _ (by omega) (by omega) (by unfold bad at c c2; omega) (by omega) (fun c => by rw [if_pos (.inr (.inr (.inr c)))]) (fun c3 => ?_)
  rw [if_neg (by rintro (q | q | q | q); omega; exact c q; exact c2 q; exact c3 q)]
  exact rune_end s _ _ _ 4 (by omega)
theorem rune_any (s : ByteArray) (h : L s ≠ []) : Ev (fun k => calepinref01_Rune.f k s) (runeP s.size (bt s 0) (bt s 1) (bt s 2) (bt s 3)) := by
  have hl := size_L s
  have hz : s.size ≠ 0 := fun e => h (List.eq_nil_of_length_eq_zero (by omega))
  have r0 := bt_range s 0
  have g0 : ¬ (s.size : Int) = 0 := by omega
  have g1 : (0 : Int) < (s.size : Int) := by omega
  simp only [calepinref01_Rune.f, g0, g1, if_false, if_true, bt_byte]
  unfold runeP
  by_cases c0 : bt s 0 < 128
  · simp only [c0, if_true]
    exact Ev.now _
  · simp only [c0, if_false]
    by_cases c1 : 192 ≤ bt s 0 ∧ bt s 0 < 224
    · have d1 : bt s 0 ≥ 192 := c1.1
      have d2 : decide (bt s 0 < 224) = true := decide_eq_true c1.2
      rw [if_pos c1]
      simp only [d1, d2, if_true]
      refine Ev.k1 ?_
      simp only [calepinref01_Rune.j0, if_true]
      exact rune_2 s _ c1
    · rw [if_neg c1]
      have e : ∀ k, (if bt s 0 ≥ 192 then calepinref01_Rune.j0 k s (bt s 0) (decide (bt s 0 < 224)) else calepinref01_Rune.j0 k s (bt s 0) false) = calepinref01_Rune.j0 k s (bt s 0) false := by
        intro k
        by_cases d1 : bt s 0 ≥ 192
        · rw [if_pos d1, decide_eq_false (by omega)]
        · rw [if_neg d1]
      simp only [e]
      refine Ev.k1 ?_
      simp only [calepinref01_Rune.j0, Bool.false_eq_true, if_false]
      by_cases c2 : 224 ≤ bt s 0 ∧ bt s 0 < 240
      · have d1 : bt s 0 ≥ 224 := c2.1
        have d2 : decide (bt s 0 < 240) = true := decide_eq_true c2.2
        rw [if_pos c2]
        simp only [d1, d2, if_true]
        refine Ev.k1 ?_
        simp only [calepinref01_Rune.j1, if_true]
        exact rune_3 s _ c2
      · rw [if_neg c2]
        have e : ∀ k, (if bt s 0 ≥ 224 then calepinref01_Rune.j1 k s (bt s 0) (decide (bt s 0 < 240)) else calepinref01_Rune.j1 k s (bt s 0) false) = calepinref01_Rune.j1 k s (bt s 0) false := by
          intro k
          by_cases d1 : bt s 0 ≥ 224
          · rw [if_pos d1, decide_eq_false (by omega)]
          · rw [if_neg d1]
        simp only [e]
        refine Ev.k1 ?_
        simp only [calepinref01_Rune.j1, Bool.false_eq_true, if_false]
        by_cases c3 : 240 ≤ bt s 0 ∧ bt s 0 < 248
        · have d1 : bt s 0 ≥ 240 := c3.1
          rw [if_pos c3]
          simp only [d1, c3.2, if_true]
          exact rune_4 s _ c3
        · rw [if_neg c3]
          by_cases d1 : bt s 0 ≥ 240
          · have d2 : ¬ bt s 0 < 248 := by omega
            simp only [d1, d2, if_true, if_false]
            exact Ev.now _
          · simp only [d1, if_false]
            exact Ev.now _
def decP (d : Nat × Nat) : Int × Int := if d = (65533, 1) then (0, 0) else ((d.1 : Int), (d.2 : Int))
theorem decP_bad : decP (65533, 1) = (0, 0) := rfl
theorem decP_ne (v k : Nat) (h : k ≠ 1) : decP (v, k) = ((v : Int), (k : Int)) := if_neg (fun e => h (congrArg Prod.snd e))
theorem runeP_dec (n b0 b1 b2 b3 : Nat) (r0 : b0 < 256) (r1 : b1 < 256) (r2 : b2 < 256) (r3 : b3 < 256) : runeP n b0 b1 b2 b3 = decP (Lib.decodeN n b0 b1 b2 b3) := by
  have fin2 : ∀ b k m : Int, fin b k m = if (b < m ∨ b > 1114111 ∨ (55296 ≤ b ∧ b ≤ 57343)) then (0, 0) else (b, k) := by
    intro b k m
    unfold fin
    by_cases c1 : b < m
    · rw [if_pos c1, if_pos (.inl c1)]
    · rw [if_neg c1]
      by_cases c2 : b > 1114111
      · rw [if_pos c2, if_pos (.inr (.inl c2))]
      · rw [if_neg c2]
        by_cases c3 : b ≥ 55296
        · rw [if_pos c3]
          by_cases c4 : b ≤ 57343
          · rw [if_pos c4, if_pos (.inr (.inr ⟨c3, c4⟩))]
          · rw [if_neg c4, if_neg (by omega)]
        · rw [if_neg c3, if_neg (by omega)]
  unfold runeP
  by_cases c0 : b0 < 128
  · have d0 : (b0 : Int) < 128 := by omega
    have e : Lib.decodeN n b0 b1 b2 b3 = (b0, 1) := by unfold Lib.decodeN; rw [if_pos c0]
    rw [if_pos d0, e]
    unfold decP
    rw [if_neg (fun e => by have := congrArg Prod.fst e; simp at this; omega)]
    rfl
  · have d0 : ¬ (b0 : Int) < 128 := by omega
    rw [if_neg d0]
    unfold Lib.decodeN
    rw [if_neg c0]
    by_cases c1 : 192 ≤ b0 ∧ b0 < 224
    · rw [if_pos (show (192 : Int) ≤ b0 ∧ (b0 : Int) < 224 by omega)]
      have h6 : b0 / 32 = 6 := by omega
      have h14 : ¬ b0 / 16 = 14 := by omega
      have h30 : ¬ b0 / 8 = 30 := by omega
      simp only [h6, h14, h30, true_and, false_and, if_false]
      unfold bad
      by_cases q : n < 2 ∨ (b1 : Int) < 128 ∨ 191 < (b1 : Int)
      · rw [if_pos q, if_neg (by omega)]; rfl
      · rw [if_neg q, fin2, if_pos (show 1 < n ∧ b1 / 64 = 2 by omega)]
        have hx : 64 * ((b0 : Int) - 192) + b1 - 128 = ((b0 % 32 * 64 + b1 % 64 : Nat) : Int) := by omega
        rw [hx]
        generalize b0 % 32 * 64 + b1 % 64 = v at *
        by_cases z : v ≥ 128
        · rw [if_neg (by omega), if_pos z, decP_ne _ _ (by decide)]; rfl
        · rw [if_pos (by omega), if_neg z]; rfl
    · rw [if_neg (show ¬ ((192 : Int) ≤ b0 ∧ (b0 : Int) < 224) by omega)]
      have h6 : ¬ b0 / 32 = 6 := by omega
      simp only [h6, false_and, if_false]
      by_cases c2 : 224 ≤ b0 ∧ b0 < 240
      · rw [if_pos (show (224 : Int) ≤ b0 ∧ (b0 : Int) < 240 by omega)]
        have h14 : b0 / 16 = 14 := by omega
        have h30 : ¬ b0 / 8 = 30 := by omega
        simp only [h14, h30, true_and, false_and, if_false]
        unfold bad
        by_cases q : n < 3 ∨ ((b1 : Int) < 128 ∨ 191 < (b1 : Int)) ∨ (b2 : Int) < 128 ∨ 191 < (b2 : Int)
        · rw [if_pos q, if_neg (by omega)]; rfl
        · rw [if_neg q, fin2, if_pos (show (1 < n ∧ b1 / 64 = 2) ∧ (2 < n ∧ b2 / 64 = 2) by omega)]
          have hx : 64 * (64 * ((b0 : Int) - 224) + b1 - 128) + b2 - 128 = ((b0 % 16 * 4096 + b1 % 64 * 64 + b2 % 64 : Nat) : Int) := by omega
          rw [hx]
          generalize b0 % 16 * 4096 + b1 % 64 * 64 + b2 % 64 = v at *
          by_cases z : v ≥ 2048 ∧ (v < 55296 ∨ (57344 ≤ v ∧ v ≤ 1114111))
          · rw [if_neg (by omega), if_pos z, decP_ne _ _ (by decide)]; rfl
          · rw [if_pos (by omega), if_neg z]; rfl
      · rw [if_neg (show ¬ ((224 : Int) ≤ b0 ∧ (b0 : Int) < 240) by omega)]
        have h14 : ¬ b0 / 16 = 14 := by omega
        simp only [h14, false_and, if_false]
        by_cases c3 : 240 ≤ b0 ∧ b0 < 248
        · rw [if_pos (show (240 : Int) ≤ b0 ∧ (b0 : Int) < 248 by omega)]
          have h30 : b0 / 8 = 30 := by omega
          simp only [h30, true_and]
          unfold bad
          by_cases q : n < 4 ∨ ((b1 : Int) < 128 ∨ 191 < (b1 : Int)) ∨ ((b2 : Int) < 128 ∨ 191 < (b2 : Int)) ∨ (b3 : Int) < 128 ∨ 191 < (b3 : Int)
          · rw [if_pos q, if_neg (by omega)]; rfl
          · rw [if_neg q, fin2, if_pos (show (1 < n ∧ b1 / 64 = 2) ∧ (2 < n ∧ b2 / 64 = 2) ∧ (3 < n ∧ b3 / 64 = 2) by omega)]
            have hx : 64 * (64 * (64 * ((b0 : Int) - 240) + b1 - 128) + b2 - 128) + b3 - 128 = ((b0 % 8 * 262144 + b1 % 64 * 4096 + b2 % 64 * 64 + b3 % 64 : Nat) : Int) := by omega
            rw [hx]
            generalize b0 % 8 * 262144 + b1 % 64 * 4096 + b2 % 64 * 64 + b3 % 64 = v at *
            by_cases z : v ≥ 65536 ∧ (v < 55296 ∨ (57344 ≤ v ∧ v ≤ 1114111))
            · rw [if_neg (by omega), if_pos z, decP_ne _ _ (by decide)]; rfl
            · rw [if_pos (by omega), if_neg z]; rfl
        · rw [if_neg (show ¬ ((240 : Int) ≤ b0 ∧ (b0 : Int) < 248) by omega)]
          have h30 : ¬ b0 / 8 = 30 := by omega
          simp only [h30, false_and, if_false]
          rfl
end Go.Proofs.YtpifopiopgbbaaaDoor.Pf
