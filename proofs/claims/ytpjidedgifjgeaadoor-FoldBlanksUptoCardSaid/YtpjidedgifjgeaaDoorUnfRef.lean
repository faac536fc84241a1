/- What the printed document's Unfold comes to: the plain unfolding. -/
import Derived.Test.YtpjidedgifjgeaaDoorUnfEv
namespace Go.Proofs.YtpjidedgifjgeaaDoor.Pf
open Go.RowKit Go.Proofs.YtpjidedgifjgeaaDoorW.PrintWords Un
open By (L size_L L_mk mk_L L_inj L_extract L_to L_from wrap_in)
open Ch (Bs)

def outR : Option (List Bs) → List ByteArray × Bool
  | some ls => (ls.map fun l => ⟨l.toArray⟩, true)
  | none => ([], false)
theorem wrap_nat {n : Nat} (h : n ≤ 9223372036854775807) : wrap64 (n : Int) = n := wrap_in (by omega) (by omega)
theorem wrap_succ {n : Nat} (h : n < 9223372036854775807) : wrap64 ((n : Int) + 1) = ((n + 1 : Nat) : Int) := by
  rw [wrap_in (by omega) (by omega)]; rfl
theorem bt_at (s : ByteArray) (i : Nat) (b : UInt8) (l : Bs) (h : (L s).drop i = b :: l) : bt s (i : Int) = b.toNat := by
  rw [By.bt_L]
  have : (L s)[i]? = some b := by
    have := congrArg (·[0]?) h
    simpa using this
  rw [List.getD_eq_getElem?_getD, this]; rfl
theorem drop_lt (s : ByteArray) (i : Nat) (h : i < s.size) : ∃ b, (L s).drop i = b :: (L s).drop (i + 1) := by
  have : i < (L s).length := by rw [← size_L]; exact h
  exact ⟨_, List.drop_eq_getElem_cons this⟩
theorem toNat_eq (b c : UInt8) : ((b.toNat : Int) = (c.toNat : Int)) = (b = c) := propext ⟨fun h => UInt8.toNat_inj.1 (by omega), fun h => by rw [h]⟩

/-- The look for a carriage return. -/
theorem ref_l2 (out rows : List ByteArray) (idx : Int) (n : Int) (row : ByteArray) (hs : row.size ≤ 1073741824) (res : List ByteArray × Bool) : ∀ (d j : Nat), row.size - j = d → j ≤ row.size →
    ((13 : UInt8) ∈ (L row).drop j → res = ([], false)) →
    ((13 : UInt8) ∉ (L row).drop j → Ev (fun k => (if 0 < (row.size : Int) then (if (bt row 0) = 32 then (calepinref02_Unfold.j3 k out idx row rows n idx true) else (calepinref02_Unfold.j3 k out idx row rows n idx ((bt row 0) == 9))) else (none))) res) →
    Ev (fun k => calepinref02_Unfold.l2 k out idx row j rows n idx) res := by
  intro d
  induction d with
  | zero =>
    intro j hd hj _ h2
    obtain rfl : j = row.size := by omega
    refine Ev.k1 ?_
    have g : ¬ ((row.size : Int) < (row.size : Int)) := by omega
    simp only [calepinref02_Unfold.l2, g, if_false]
    exact h2 (by rw [List.drop_eq_nil_of_le (by rw [← size_L]; exact Nat.le_refl _)]; simp)
  | succ d ih =>
    intro j hd hj h1 h2
    refine Ev.k1 ?_
    obtain ⟨b, hb⟩ := drop_lt row j (by omega)
    have g : ((j : Int) < (row.size : Int)) := by omega
    have g0 : (0 : Int) ≤ (j : Int) := by omega
    simp only [calepinref02_Unfold.l2, g, g0, if_true, bt_at row j b _ hb, wrap_succ (n := j) (by omega)]
    have h13 := toNat_eq b 13
    have e13 : ((13 : UInt8).toNat : Int) = 13 := rfl
    rw [e13] at h13
    simp only [h13]
    rw [hb] at h1 h2
    by_cases e : b = 13
    · subst e
      simp only [if_true]
      rw [h1 (by simp)]
      exact Ev.now _
    · simp only [e, if_false]
      exact ih (j + 1) (by omega) (by omega) (fun h => h1 (by simp [h])) (fun h => h2 (by simp [h, Ne.symm e]))

/-- The rows, one by one. -/
theorem ref_l1 (rows : List ByteArray) (hrs : ∀ r ∈ rows, r.size ≤ 1073741824) (hn : rows.length ≤ 1073741824) : ∀ (d idx : Nat) (out : List ByteArray), rows.length - idx = d → idx ≤ rows.length →
    (out = [] ↔ idx = 0) → out.length ≤ idx → weight (out.map L) ≤ 1073741825 * idx →
    Ev (fun k => calepinref02_Unfold.l1 k out rows (rows.length : Int) (idx : Int)) (outR (proc ((rows.map L).drop idx) (out.map L))) := by
  intro d
  induction d with
  | zero =>
    intro idx out hd hj _ _ _
    obtain rfl : idx = rows.length := by omega
    refine Ev.k1 ?_
    have g : ¬ ((rows.length : Int) < (rows.length : Int)) := by omega
    simp only [calepinref02_Unfold.l1, g, if_false]
    rw [List.drop_eq_nil_of_le (by rw [List.length_map]; exact Nat.le_refl _)]
    have e : outR (proc [] (out.map L)) = (out, true) := by simp only [proc, outR, map_mk_L]
    rw [e]
    exact Ev.now _
  | succ d ih =>
    intro idx out hd hj hio hlo hw
    have hlt : idx < rows.length := by omega
    refine Ev.k1 ?_
    have g : ((idx : Int) < (rows.length : Int)) := by omega
    have g0 : (0 : Int) ≤ (idx : Int) := by omega
    simp only [calepinref02_Unfold.l1, g, g0, if_true]
    obtain ⟨r, hr⟩ : ∃ r, rows[idx] = r := ⟨_, rfl⟩
    have hrd : rdOf ByteArray.empty rows (idx : Int) = r := by
      unfold rdOf; rw [Int.toNat_natCast, List.getD_eq_getElem?_getD, List.getElem?_eq_getElem hlt, hr]; rfl
    have hdrop : (rows.map L).drop idx = L r :: (rows.map L).drop (idx + 1) := by
      rw [List.drop_eq_getElem_cons (by rw [List.length_map]; exact hlt), List.getElem_map, hr]
    have hrz := hrs r (by rw [← hr]; exact List.getElem_mem hlt)
    simp only [hrd, hdrop, proc]
    have hlr := size_L r
    by_cases h0 : L r = []
    · rw [if_pos (show Bad (L r) from .inl h0)]
      have : (r.size : Int) = 0 := by rw [hlr, h0]; rfl
      simp only [this, if_true]
      exact Ev.now _
    · have hne : (L r).length ≠ 0 := fun e => h0 (List.eq_nil_of_length_eq_zero e)
      have : ¬ (r.size : Int) = 0 := by omega
      simp only [this, if_false]
      have hl2 := ref_l2 out rows (idx : Int) (rows.length : Int) r hrz (outR (if Bad (L r) then none else if Blank (L r) then (if out.map L = [] then none else proc ((rows.map L).drop (idx + 1)) (putLast (out.map L) (L r))) else proc ((rows.map L).drop (idx + 1)) (out.map L ++ [L r]))) r.size 0 (by omega) (by omega)
      refine hl2 (fun h => ?_) (fun h => ?_)
      · rw [if_pos (show Bad (L r) from .inr (by simpa using h))]; rfl
      · have hbad : ¬ Bad (L r) := by unfold Bad; simp only [not_or]; exact ⟨h0, by simpa using h⟩
        rw [if_neg hbad]
        have hpos : (0 : Int) < (r.size : Int) := by omega
        simp only [hpos, if_true]
        have hbl := blank_bt r h0
        have hj : ∀ k, (if bt r 0 = 32 then calepinref02_Unfold.j3 k out (idx : Int) r rows (rows.length : Int) (idx : Int) true else calepinref02_Unfold.j3 k out (idx : Int) r rows (rows.length : Int) (idx : Int) (bt r 0 == 9)) = calepinref02_Unfold.j3 k out (idx : Int) r rows (rows.length : Int) (idx : Int) (decide (Blank (L r))) := by
          intro k
          have e : decide (Blank (L r)) = !(if bt r 0 = 32 then false else bt r 0 != 9) := by rw [hbl, Bool.not_not]
          rw [e]
          split
          · rfl
          · simp [bne]
        simp only [hj]
        refine Ev.k1 ?_
        have hws := wrap_succ (n := idx) (by omega)
        have hwl := weight_length (out.map L)
        rw [List.length_map] at hwl
        by_cases hB : Blank (L r)
        · simp only [calepinref02_Unfold.j3, hB, decide_true, if_true]
          by_cases ho : out = []
          · have h00 : idx = 0 := hio.1 ho
            subst h00; subst ho
            simp only [List.map_nil, if_true]
            exact Ev.now _
          · have hi00 : idx ≠ 0 := fun h => ho (hio.2 h)
            have hi0 : ¬ ((idx : Int) = 0) := by clear hws; omega
            have hoL : ¬ out.map L = [] := by simpa using ho
            have hol : out.length ≠ 0 := by simpa using ho
            rw [if_neg hoL]
            have hwr : wrap64 ((out.length : Int) - 1) = ((out.length - 1 : Nat) : Int) := by
              rw [Int.natCast_sub (by omega)]
              exact wrap_in (by omega) (by omega)
            have hlast := weight_last hoL
            rw [List.length_map, ← rdOf_L] at hlast
            simp only [hi0, if_false, hwr]
            have g1 : (0 : Int) ≤ ((out.length - 1 : Nat) : Int) := by omega
            have g2 : ((out.length - 1 : Nat) : Int) < (out.length : Int) := by clear hwr hws; omega
            have g3 : (1 : Int) ≤ (r.size : Int) := by clear hwr hws; omega
            simp only [g1, g2, g3, if_true, Int.toNat_natCast, Option.bind_some, hws]
            clear hwr hws
            have hy : L (r.extract 1 r.size) = (L r).tail := by rw [L_to, List.drop_one]
            have hys : (r.extract 1 r.size).size = r.size - 1 := by rw [size_L, hy, List.length_tail, ← hlr]
            generalize r.extract 1 r.size = y at *
            have g4 : (rdOf ByteArray.empty out ((out.length - 1 : Nat) : Int)).size + y.size ≤ 9223372036854775807 := by rw [size_L]; omega
            simp only [g4, if_true]
            have hset : ((out.set (out.length - 1) (rdOf ByteArray.empty out ((out.length - 1 : Nat) : Int) ++ y)).map L) = putLast (out.map L) (L r) := by
              unfold putLast
              rw [List.map_set, By.L_append, hy, rdOf_L, List.length_map]
            have hi := ih (idx + 1) (out.set (out.length - 1) (rdOf ByteArray.empty out ((out.length - 1 : Nat) : Int) ++ y)) (by omega) (by omega) (by simp [ho]) (by rw [List.length_set]; omega) (by
              rw [hset]
              obtain ⟨o, x, hox⟩ := snoc_of hoL
              rw [hox, putLast_snoc, weight_snoc]
              rw [hox, weight_snoc] at hw
              rw [List.length_append, List.length_tail]
              omega)
            rw [hset] at hi
            exact hi
        · simp only [calepinref02_Unfold.j3, hB, decide_false, Bool.false_eq_true, if_false]
          have g1 : out.length < 8796093022208 := by omega
          simp only [g1, if_true, hws]
          have hi := ih (idx + 1) (out ++ [r]) (by omega) (by omega) (by simp) (by rw [List.length_append, List.length_singleton]; omega) (by
            rw [List.map_append, List.map_singleton, weight_snoc]
            omega)
          rw [List.map_append, List.map_singleton] at hi
          exact hi

theorem rowsOf_more : ∀ (f g : Nat) (t : Bs), t.length < f → t.length < g → rowsOf f t = rowsOf g t := by
  intro f
  induction f with
  | zero => intro g t h; omega
  | succ f ih =>
    intro g t hf hg
    obtain ⟨g, rfl⟩ : ∃ m, g = m + 1 := ⟨g - 1, by omega⟩
    simp only [rowsOf]
    by_cases ht : t = []
    · rw [if_pos ht, if_pos ht]
    · rw [if_neg ht, if_neg ht]
      by_cases hok : (cut10 t).2.2 = true
      · have hl := cut10_length hok
        rw [if_pos hok, if_pos hok, ih g _ (by omega) (by omega)]
      · rw [if_neg hok, if_neg hok]
def rowsT (t : Bs) : Option (List Bs) := rowsOf (t.length + 1) t
theorem rowsT_cut (a b : Bs) (h : (10 : UInt8) ∉ a) : rowsT (a ++ 10 :: b) = (rowsT b).map (trimCR a :: ·) := by
  show rowsOf ((a ++ 10 :: b).length + 1) _ = _
  simp only [rowsOf]
  rw [if_neg (by simp), cut10_yes b h]
  simp only [if_true]
  rw [rowsOf_more _ (b.length + 1) b (by simp; omega) (by omega)]
  rfl
theorem rowsT_open (a : Bs) (h : (10 : UInt8) ∉ a) : rowsT a = if a = [] then some [] else none := by
  show rowsOf (a.length + 1) _ = _
  simp only [rowsOf]
  rw [cut10_no h]
  rfl
def withRows (rows : List Bs) : Option (List Bs) → Option (List Bs)
  | none => none
  | some rs => proc (rows ++ rs) []
/-- The rows of a text, as the document collects them. -/
theorem ref_l0 (t : ByteArray) (ht : t.size ≤ 1048577) : ∀ (d i at' : Nat) (rows : List ByteArray), t.size - i = d → i ≤ t.size → at' ≤ i → (10 : UInt8) ∉ ((L t).drop at').take (i - at') →
    (∀ r ∈ rows, r.size ≤ 1073741824) → rows.length ≤ i →
    Ev (fun k => calepinref02_Unfold.l0 k t rows at' i) (outR (withRows (rows.map L) (rowsT ((L t).drop at')))) := by
  intro d
  induction d with
  | zero =>
    intro i at' rows hd hi ha h10 hrs hn
    obtain rfl : i = t.size := by omega
    have hl := size_L t
    rw [List.take_of_length_le (by rw [List.length_drop]; omega)] at h10
    refine Ev.k1 ?_
    have g : ¬ ((t.size : Int) < (t.size : Int)) := by omega
    simp only [calepinref02_Unfold.l0, g, if_false]
    rw [rowsT_open _ h10]
    by_cases h : at' < t.size
    · have g1 : ((at' : Int) < (t.size : Int)) := by omega
      simp only [g1, if_true]
      rw [if_neg (by intro e; have := congrArg List.length e; rw [List.length_drop, List.length_nil] at this; omega)]
      exact Ev.now _
    · have g1 : ¬ ((at' : Int) < (t.size : Int)) := by omega
      simp only [g1, if_false]
      rw [if_pos (List.drop_eq_nil_of_le (by omega))]
      have := ref_l1 rows hrs (by omega) rows.length 0 [] (by omega) (by omega) (by simp) (by simp) (by simp [weight])
      simpa [withRows] using this
  | succ d ih =>
    intro i at' rows hd hi ha h10 hrs hn
    have hl := size_L t
    refine Ev.k1 ?_
    obtain ⟨b, hb⟩ := drop_lt t i (by omega)
    have g : ((i : Int) < (t.size : Int)) := by omega
    have g0 : (0 : Int) ≤ (i : Int) := by omega
    have hws := wrap_succ (n := i) (by omega)
    simp only [calepinref02_Unfold.l0, g, g0, if_true, bt_at t i b _ hb, hws]
    have e10 : ((b.toNat : Int) = 10) = (b = 10) := toNat_eq b 10
    simp only [e10]
    have hsplit : (L t).drop at' = ((L t).drop at').take (i - at') ++ b :: (L t).drop (i + 1) := by
      conv => lhs; rw [← List.take_append_drop (i - at') ((L t).drop at')]
      rw [List.drop_drop, show at' + (i - at') = i from by omega, hb]
    by_cases e : b = 10
    · subst e
      have g1 : (0 : Int) ≤ (at' : Int) := by omega
      have g2 : (at' : Int) ≤ (i : Int) := by omega
      have g3 : (i : Int) ≤ (t.size : Int) := by omega
      simp only [g1, g2, g3, if_true, Int.toNat_natCast, Option.bind_some]
      have hy : L (t.extract at' i) = ((L t).drop at').take (i - at') := L_extract t at' i
      have hyz : (t.extract at' i).size = i - at' := by rw [size_L, hy, List.length_take, List.length_drop]; omega
      rw [← hy] at hsplit h10
      rw [hsplit, rowsT_cut _ _ h10]
      clear hsplit
      obtain ⟨y, hyy⟩ : ∃ y, t.extract at' i = y := ⟨_, rfl⟩
      rw [hyy] at hy hyz h10 ⊢
      clear hyy
      have hly := size_L y
      have hcont : ∀ v : ByteArray, L v = trimCR (L y) → v.size ≤ 1073741824 → Ev (fun k => if rows.length < 8796093022208 then calepinref02_Unfold.l0 k t (rows ++ [v]) ((i + 1 : Nat) : Int) ((i + 1 : Nat) : Int) else none) (outR (withRows (rows.map L) ((rowsT ((L t).drop (i + 1))).map (trimCR (L y) :: ·)))) := by
        intro v hv hvz
        have g4 : rows.length < 8796093022208 := by clear hws; omega
        simp only [g4, if_true]
        have := ih (i + 1) (i + 1) (rows ++ [v]) (by clear hws; omega) (by clear hws; omega) (by omega) (by simp) (by
          intro r hr
          rcases List.mem_append.1 hr with h | h
          · exact hrs r h
          · obtain rfl := List.mem_singleton.1 h; exact hvz) (by rw [List.length_append, List.length_singleton]; omega)
        rw [List.map_append, List.map_singleton, hv] at this
        have e2 : withRows (rows.map L) ((rowsT ((L t).drop (i + 1))).map (trimCR (L y) :: ·)) = withRows (rows.map L ++ [trimCR (L y)]) (rowsT ((L t).drop (i + 1))) := by
          cases rowsT ((L t).drop (i + 1)) with
          | none => rfl
          | some rs => simp [withRows]
        rw [e2]
        exact this
      by_cases hy0 : y.size = 0
      · have g5 : ¬ ((y.size : Int) > 0) := by omega
        simp only [g5, if_false]
        have hyn : L y = [] := List.eq_nil_of_length_eq_zero (by omega)
        exact hcont y (by rw [hyn]; rfl) (by omega)
      · have g5 : (y.size : Int) > 0 := by omega
        have hwy : wrap64 ((y.size : Int) - 1) = ((y.size - 1 : Nat) : Int) := by
          rw [Int.natCast_sub (by omega)]
          exact wrap_in (by clear hws; omega) (by clear hws; omega)
        simp only [g5, if_true, hwy]
        have g6 : (0 : Int) ≤ ((y.size - 1 : Nat) : Int) := by omega
        have g7 : ((y.size - 1 : Nat) : Int) < (y.size : Int) := by clear hws hwy; omega
        have g8 : ((y.size - 1 : Nat) : Int) ≤ (y.size : Int) := by clear hws hwy; omega
        have hyne : L y ≠ [] := by intro e; rw [e, List.length_nil] at hly; omega
        obtain ⟨l, c, hlc⟩ : ∃ l c, L y = l ++ [c] := ⟨_, _, (List.dropLast_concat_getLast hyne).symm⟩
        have hz : y.size = l.length + 1 := by rw [hly, hlc]; simp
        have hbt : bt y ((y.size - 1 : Nat) : Int) = c.toNat := bt_at y (y.size - 1) c [] (by rw [hlc, hz]; simp)
        have e13 : ((c.toNat : Int) = 13) = (c = 13) := toNat_eq c 13
        simp only [g6, g7, g8, if_true, hbt, e13]
        clear hws hwy
        by_cases hc : c = 13
        · subst hc
          simp only [if_true, Int.toNat_natCast]
          exact hcont _ (by rw [L_from, hlc, trimCR_13, hz]; simp) (by rw [size_L, L_from, List.length_take]; omega)
        · simp only [hc, if_false]
          exact hcont y (by rw [hlc]; simp [trimCR, hc]) (by omega)
    · simp only [e, if_false]
      exact ih (i + 1) at' rows (by clear hws; omega) (by clear hws; omega) (by omega) (by
        clear hws
        rw [show i + 1 - at' = (i - at') + 1 from by omega]
        rw [hsplit]
        have hlen : (((L t).drop at').take (i - at')).length = i - at' := by rw [List.length_take, List.length_drop]; omega
        rw [List.take_append, hlen, List.take_of_length_le (by rw [hlen]; omega), show i - at' + 1 - (i - at') = 1 from by omega]
        simp [h10, Ne.symm e]) hrs (by omega)
/-- The document's Unfold of a text. -/
theorem ref_any (t : ByteArray) (h : t.size ≤ 1048577) : Ev (fun k => calepinref02_Unfold.f k t) (outR (unfold (L t))) := by
  have := ref_l0 t h t.size 0 0 [] (by omega) (by omega) (by omega) (by simp) (by simp) (by simp)
  have e : unfold (L t) = withRows [] (rowsT (L t)) := by
    unfold unfold
    rw [unf_rows]
    show (rowsT (L t)).bind _ = _
    cases rowsT (L t) with
    | none => rfl
    | some rs => rfl
  rw [e]
  simpa [calepinref02_Unfold.f] using this
end Go.Proofs.YtpjidedgifjgeaaDoor.Pf
