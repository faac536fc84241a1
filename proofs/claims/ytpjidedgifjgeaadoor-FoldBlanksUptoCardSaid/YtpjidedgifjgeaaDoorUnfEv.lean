/- What the printed fold.Unfold and the printed document's Unfold come to: the plain unfolding. -/
import Derived.Test.YtpjidedgifjgeaaDoorUnf
import Derived.Test.YtpjidedgifjgeaaDoorPfx1
import Derived.Test.YtpjidedgifjgeaaDoorPfx2
namespace Go.Proofs.YtpjidedgifjgeaaDoor.Pf
open Go.RowKit Go.Proofs.YtpjidedgifjgeaaDoorW.PrintWords Un
open By (L size_L L_mk mk_L L_inj L_extract L_to L_from wrap_in)
open Ch (Bs)

theorem eq_of_L {s : ByteArray} {l : List UInt8} (h : L s = l) : s = ⟨l.toArray⟩ := by rw [← h, mk_L]
theorem Ev.k1 {α : Type} {g : Nat → Option α} {r : α} (h : Ev (fun k => g (k + 1)) r) : Ev g r := Ev.step (fun _ => rfl) h

theorem trimSuffix_f (s : ByteArray) (hs : s.size ≤ 4294967281) : strings_TrimSuffix.f s (⟨#[13]⟩ : ByteArray) = some ⟨(trimCR (L s)).toArray⟩ := by
  have hl := size_L s
  have h13 : ((⟨#[13]⟩ : ByteArray).size : Int) = 1 := rfl
  unfold strings_TrimSuffix.f stringslite_TrimSuffix.f stringslite_HasSuffix.f
  rw [h13]
  by_cases h0 : s.size = 0
  · have hn : L s = [] := List.eq_nil_of_length_eq_zero (by omega)
    rw [if_neg (by omega)]
    simp only [Option.bind_some, Bool.false_eq_true, if_false]
    rw [hn]
    congr 1
    rw [eq_of_L hn]; rfl
  · have hw : wrap64 ((s.size : Int) - 1) = ((s.size - 1 : Nat) : Int) := by
      rw [Int.natCast_sub (by omega)]
      exact wrap_in (by omega) (by omega)
    rw [if_pos (by omega), hw]
    rw [if_pos (by omega), if_pos (by omega)]
    simp only [Int.toNat_natCast]
    clear hw
    obtain ⟨l, b, hlb⟩ : ∃ l b, L s = l ++ [b] := ⟨_, _, (List.dropLast_concat_getLast (by intro e; rw [e, List.length_nil] at hl; omega)).symm⟩
    have hz : s.size = l.length + 1 := by rw [hl, hlb]; simp
    have e1 : (s.extract (s.size - 1) s.size).toList = [b] := by
      rw [By.toList_L, L_to, hlb, hz]; simp
    rw [e1]
    have e2 : (⟨#[13]⟩ : ByteArray).toList = [13] := by rw [By.toList_L]
    rw [e2, hlb]
    by_cases hb : b = 13
    · subst hb
      simp only [Option.bind_some, beq_self_eq_true, if_true]
      have ht : trimCR (l ++ [13]) = l := trimCR_13 l
      rw [ht]
      rw [if_pos (by omega), if_pos (by omega)]
      simp only [Option.bind_some, Option.some.injEq]
      exact eq_of_L (by rw [L_from, hlb, hz]; simp)
    · have hbb : ([b] == ([13] : List UInt8)) = false := by simp [hb]
      rw [hbb]
      simp only [Option.bind_some, Bool.false_eq_true, if_false, Option.some.injEq]
      exact eq_of_L (by rw [hlb]; simp [trimCR, hb])

def outF : Option (List Bs) → List ByteArray × Int
  | some ls => (ls.map fun l => ⟨l.toArray⟩, 0)
  | none => ([], 20)
theorem map_mk_L (out : List ByteArray) : (out.map L).map (fun l => (⟨l.toArray⟩ : ByteArray)) = out := by
  rw [List.map_map]
  conv => rhs; rw [← List.map_id out]
  exact List.map_congr_left fun s _ => mk_L s
theorem map_eq_nil_L (out : List ByteArray) : (out.map L = []) ↔ out = [] := by simp

theorem cut10_le (l : Bs) : (cut10 l).1.length ≤ l.length := by
  by_cases h10 : (10 : UInt8) ∈ l
  · obtain ⟨a, b, rfl, ha⟩ := List.eq_append_cons_of_mem h10
    rw [cut10_yes b ha]; simp
  · rw [cut10_no h10]; exact Nat.le_refl _
theorem weight_length (ls : List Bs) : ls.length ≤ weight ls := by unfold weight; omega
theorem weight_last {ls : List Bs} (h : ls ≠ []) : (ls.getD (ls.length - 1) []).length ≤ weight ls := by
  obtain ⟨o, x, rfl⟩ := snoc_of h
  rw [weight_snoc]
  simp
  omega
theorem rdOf_L (out : List ByteArray) (i : Nat) : L (rdOf ByteArray.empty out (i : Int)) = (out.map L).getD i [] := by
  unfold rdOf
  rw [Int.toNat_natCast, List.getD_eq_getElem?_getD, List.getD_eq_getElem?_getD, List.getElem?_map]
  cases out[i]? <;> rfl
theorem j1_bad (out : List ByteArray) (r c2 : ByteArray) : Ev (fun k => fold_Unfold.j1 k out r c2 true) ([], 20) := by
  refine Ev.k1 ?_
  simp only [fold_Unfold.j1, if_true]
  exact Ev.now _
theorem blank_bt (r : ByteArray) (h : L r ≠ []) : (if bt r 0 = 32 then false else bt r 0 != 9) = !decide (Blank (L r)) := by
  have hb : bt r 0 = ((L r).getD 0 0).toNat := By.bt_L r 0
  rw [hb]
  obtain ⟨b, l, e⟩ := List.exists_cons_of_ne_nil h
  rw [e]
  simp only [List.getD_cons_zero, Blank, List.head?_cons, Option.some.injEq]
  have h32 : ((b.toNat : Int) = 32) = (b = 32) := propext ⟨fun h => UInt8.toNat_inj.1 (by show b.toNat = 32; omega), fun h => by subst h; rfl⟩
  have h9 : ((b.toNat : Int) != 9) = !decide (b = 9) := by
    by_cases h : b = 9
    · subst h; rfl
    · have hn : ¬ (b.toNat : Int) = 9 := fun q => h (UInt8.toNat_inj.1 (by show b.toNat = 9; omega))
      simp [bne, h, hn]
  rw [h9]
  simp only [h32]
  by_cases e1 : b = 32
  · simp [e1]
  · simp [e1]
theorem size_mk (l : Bs) : (⟨l.toArray⟩ : ByteArray).size = l.length := by rw [size_L, L_mk]
/-- fold.Unfold's loop. -/
theorem unfold_loop : ∀ (f : Nat) (t : ByteArray) (out : List ByteArray), t.size < f → weight (out.map L) + t.size ≤ 1073741824 →
    Ev (fun k => fold_Unfold.l0 k t out) (outF (unf f (L t) (out.map L))) := by
  intro f
  induction f with
  | zero => intro t out h; omega
  | succ f ih =>
    intro t out hf hw
    have hl := size_L t
    refine Ev.k1 ?_
    simp only [fold_Unfold.l0, unf]
    by_cases ht : L t = []
    · rw [if_pos ht]
      have : t.toList = [] := by rw [By.toList_L]; exact ht
      simp only [this, if_true]
      have e : outF (some (out.map L)) = (out, 0) := by simp only [outF, map_mk_L]
      rw [e]
      exact Ev.now _
    · rw [if_neg ht]
      have hne : ¬ t.toList = [] := by rw [By.toList_L]; exact ht
      simp only [hne, if_false]
      have hcut : strings_Cut.f t (⟨#[10]⟩ : ByteArray) = some (⟨(cut10 (L t)).1.toArray⟩, ⟨(cut10 (L t)).2.1.toArray⟩, (cut10 (L t)).2.2) := by
        unfold strings_Cut.f
        rw [if_pos (by omega)]
        have : Lib.cut t.data.toList (⟨#[10]⟩ : ByteArray).data.toList = cut10 (L t) := cut_10 (L t)
        rw [this]
      simp only [hcut, Option.bind_some]
      by_cases hok : (cut10 (L t)).2.2 = true
      · obtain ⟨hp, h10⟩ := cut10_parts hok
        have hlen : t.size = (cut10 (L t)).1.length + (cut10 (L t)).2.1.length + 1 := by
          rw [hl]
          conv => lhs; rw [hp]
          simp only [List.length_append, List.length_cons]; omega
        simp only [hok, if_true]
        generalize (cut10 (L t)).1 = c1 at *
        generalize (cut10 (L t)).2.1 = c2 at *
        have hz1 : (⟨c1.toArray⟩ : ByteArray).size = c1.length := by rw [size_L, L_mk]
        rw [trimSuffix_f _ (by omega), L_mk]
        simp only [Option.bind_some]
        have htr := trimCR_length c1
        generalize hr : trimCR c1 = r at *
        have hm : L (⟨r.toArray⟩ : ByteArray) = r := L_mk r
        by_cases hr0 : r = []
        · have e : (⟨r.toArray⟩ : ByteArray).toList = [] := by rw [By.toList_L, hm]; exact hr0
          rw [if_pos (.inr (.inl hr0))]
          simp only [e, if_true]
          exact j1_bad _ _ _
        · have e : ¬ (⟨r.toArray⟩ : ByteArray).toList = [] := by rw [By.toList_L, hm]; exact hr0
          simp only [e, if_false]
          have hcon : strings_Contains.f (⟨r.toArray⟩ : ByteArray) (⟨#[13]⟩ : ByteArray) = some (decide ((13 : UInt8) ∈ r)) := by
            unfold strings_Contains.f
            rw [if_pos (by rw [size_mk]; omega)]
            have : Lib.contains (⟨r.toArray⟩ : ByteArray).data.toList (⟨#[13]⟩ : ByteArray).data.toList = Lib.contains r [13] := by rw [show (⟨r.toArray⟩ : ByteArray).data.toList = r from hm]
            rw [this, contains_one]
          rw [hcon]
          simp only [Option.bind_some]
          by_cases h13 : (13 : UInt8) ∈ r
          · rw [if_pos (.inr (.inr h13))]
            simp only [h13, decide_true]
            exact j1_bad _ _ _
          · have hbad : ¬ Bad r := by unfold Bad; simp [hr0, h13]
            rw [if_neg (by simp [hbad])]
            simp only [h13, decide_false]
            refine Ev.k1 ?_
            simp only [fold_Unfold.j1, Bool.false_eq_true, if_false]
            have hpos : (0 : Int) < ((⟨r.toArray⟩ : ByteArray).size : Int) := by
              rw [size_mk]; have : r.length ≠ 0 := by simpa using hr0
              omega
            simp only [hpos, if_true]
            have hj : ∀ k, (if bt (⟨r.toArray⟩ : ByteArray) 0 = 32 then fold_Unfold.j2 k (⟨c2.toArray⟩ : ByteArray) out (⟨r.toArray⟩ : ByteArray) false else fold_Unfold.j2 k (⟨c2.toArray⟩ : ByteArray) out (⟨r.toArray⟩ : ByteArray) (bt (⟨r.toArray⟩ : ByteArray) 0 != 9)) = fold_Unfold.j2 k (⟨c2.toArray⟩ : ByteArray) out (⟨r.toArray⟩ : ByteArray) (!decide (Blank r)) := by
              intro k
              have := blank_bt (⟨r.toArray⟩ : ByteArray) (by rw [hm]; exact hr0)
              rw [hm] at this
              rw [← this]
              split <;> rfl
            simp only [hj]
            refine Ev.k1 ?_
            have hw2 := weight_length (out.map L)
            rw [List.length_map] at hw2
            have hz2 : (⟨c2.toArray⟩ : ByteArray).size = c2.length := size_mk c2
            by_cases hB : Blank r
            · simp only [fold_Unfold.j2, hB, decide_true, Bool.not_true, Bool.false_eq_true, if_false, if_true]
              by_cases ho : out = []
              · subst ho
                simp only [List.length_nil, List.map_nil, if_true]
                exact Ev.now _
              · have hol : out.length ≠ 0 := by simpa using ho
                have hoL : ¬ out.map L = [] := by simpa using ho
                rw [if_neg hoL]
                have h1 : ¬ (out.length : Int) = 0 := by omega
                have hwr : wrap64 ((out.length : Int) - 1) = ((out.length - 1 : Nat) : Int) := by
                  rw [Int.natCast_sub (by omega)]
                  exact wrap_in (by omega) (by omega)
                have hlast := weight_last hoL
                rw [List.length_map, ← rdOf_L] at hlast
                have hx : (⟨r.toArray⟩ : ByteArray).size = r.length := size_mk r
                simp only [h1, if_false, hwr]
                have g1 : (0 : Int) ≤ ((out.length - 1 : Nat) : Int) := by omega
                have g2 : ((out.length - 1 : Nat) : Int) < (out.length : Int) := by clear hwr; omega
                have g3 : (1 : Int) ≤ ((⟨r.toArray⟩ : ByteArray).size : Int) := by clear hwr; omega
                simp only [g1, g2, g3, if_true, Int.toNat_natCast, Option.bind_some]
                clear hwr
                have hy : L ((⟨r.toArray⟩ : ByteArray).extract 1 (⟨r.toArray⟩ : ByteArray).size) = r.tail := by rw [L_to, hm, List.drop_one]
                have hys : ((⟨r.toArray⟩ : ByteArray).extract 1 (⟨r.toArray⟩ : ByteArray).size).size = r.length - 1 := by rw [size_L, hy, List.length_tail]
                generalize (⟨r.toArray⟩ : ByteArray).extract 1 (⟨r.toArray⟩ : ByteArray).size = y at *
                have g4 : (rdOf ByteArray.empty out ((out.length - 1 : Nat) : Int)).size + y.size ≤ 9223372036854775807 := by rw [size_L]; omega
                simp only [g4, if_true]
                have hset : ((out.set (out.length - 1) (rdOf ByteArray.empty out ((out.length - 1 : Nat) : Int) ++ y)).map L) = putLast (out.map L) r := by
                  unfold putLast
                  rw [List.map_set, By.L_append, hy, rdOf_L, List.length_map]
                have hi := ih (⟨c2.toArray⟩ : ByteArray) (out.set (out.length - 1) (rdOf ByteArray.empty out ((out.length - 1 : Nat) : Int) ++ y)) (by omega) (by
                  rw [hset]
                  obtain ⟨o, x, hox⟩ := snoc_of hoL
                  rw [hox, putLast_snoc, weight_snoc]
                  rw [hox, weight_snoc] at hw
                  rw [List.length_append, List.length_tail]
                  omega)
                rw [hset, L_mk] at hi
                exact hi
            · simp only [fold_Unfold.j2, hB, decide_false, Bool.not_false, if_true, if_false]
              have g1 : out.length < 8796093022208 := by omega
              simp only [g1, if_true]
              have hi := ih (⟨c2.toArray⟩ : ByteArray) (out ++ [⟨r.toArray⟩]) (by omega) (by
                rw [List.map_append, List.map_singleton, weight_snoc, hm]
                omega)
              rw [List.map_append, List.map_singleton, L_mk, L_mk] at hi
              exact hi
      · have hf' : (cut10 (L t)).2.2 = false := by simpa using hok
        rw [if_pos (.inl hf')]
        have hz1 := size_mk (cut10 (L t)).1
        have hz3 := cut10_le (L t)
        rw [trimSuffix_f _ (by omega)]
        simp only [Option.bind_some, hf', Bool.false_eq_true, if_false]
        exact j1_bad _ _ _
/-- fold.Unfold of a text. -/
theorem unfold_any (t : ByteArray) (h : t.size ≤ 1073741824) : Ev (fun k => fold_Unfold.f k t) (outF (unfold (L t))) := by
  have := unfold_loop (t.size + 1) t [] (by omega) (by simpa [weight] using h)
  rw [size_L] at this
  exact this
end Go.Proofs.YtpjidedgifjgeaaDoor.Pf
