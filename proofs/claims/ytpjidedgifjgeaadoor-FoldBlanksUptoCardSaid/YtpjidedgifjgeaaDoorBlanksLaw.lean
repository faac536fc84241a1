/- calepinlaw02.FoldBlanks, plain: what the printed law comes to is true, at every line and all cuts. -/
import Derived.Test.YtpjidedgifjgeaaDoorAgain
import Derived.Test.YtpjidedgifjgeaaDoorPfx8
namespace Go.Proofs.YtpjidedgifjgeaaDoor.Pf
open Go.RowKit Go.Proofs.YtpjidedgifjgeaaDoorW.PrintWords Un
open By (L size_L L_mk mk_L L_inj L_extract L_to L_from L_append wrap_in)
open Ch (Bs)

theorem unfT_nl (r : Bs) (t : Bs) (out : List Bs) (h10 : (10 : UInt8) ∉ r) (h13 : (13 : UInt8) ∉ r) (hr : r ≠ []) :
    unfT (r ++ 10 :: t) out = if Blank r then (if out = [] then none else unfT t (putLast out r)) else unfT t (out ++ [r]) := by
  have hc : cut10 (r ++ 10 :: t) = (r, t, true) := cut10_yes t h10
  have hb : ¬ Bad r := by unfold Bad; simp [hr, h13]
  have ht : trimCR r = r := by
    unfold trimCR
    rw [if_neg (fun e => h13 (List.mem_of_getLast? e))]
  show unf ((r ++ 10 :: t).length + 1) _ _ = _
  simp only [unf, hc, ht]
  rw [if_neg (by simp), if_neg (by simp [hb])]
  rw [unf_T _ _ _ (by simp; omega), unf_T _ _ _ (by simp; omega)]
def Sep (s : Bs) : Prop := s = [10] ∨ s = [13, 10]
theorem unfT_sep (r sep t : Bs) (out : List Bs) (hs : Sep sep) (h10 : (10 : UInt8) ∉ r) (h13 : (13 : UInt8) ∉ r) (hr : r ≠ []) :
    unfT (r ++ (sep ++ t)) out = if Blank r then (if out = [] then none else unfT t (putLast out r)) else unfT t (out ++ [r]) := by
  rcases hs with rfl | rfl
  · exact unfT_nl r t out h10 h13 hr
  · exact unfT_row r t out h10 h13 hr
/-- What has been written, where A has been taken. -/
def St (A s : Bs) : Prop := (A = [] ∧ s = []) ∨ ∃ s' b, (b = 32 ∨ b = 9) ∧ s = s' ++ [b] ∧ ∀ T, unfT (s' ++ T) [] = unfT T [A]
theorem St.row {A p B s sep : Bs} (hl : Un.Good (A ++ p ++ B)) (hp : p ≠ []) (h : St A s) (hs : Sep sep) (T : Bs) : unfT (s ++ (p ++ (sep ++ T))) [] = unfT T [A ++ p] := by
  obtain ⟨h0, hb, h13, h10⟩ := hl
  simp only [List.mem_append, not_or] at h13 h10
  rcases h with ⟨rfl, rfl⟩ | ⟨s', b, hbb, rfl, hT⟩
  · have hnb : ¬ Blank p := by
      obtain ⟨x, p', rfl⟩ := List.exists_cons_of_ne_nil hp
      simpa [Blank] using hb
    have := unfT_sep p sep T [] hs h10.1.2 h13.1.2 hp
    rw [if_neg hnb] at this
    simpa using this
  · have hbl : Blank (b :: p) := by
      rcases hbb with rfl | rfl
      · exact .inl rfl
      · exact .inr rfl
    have e : s' ++ [b] ++ (p ++ (sep ++ T)) = s' ++ ((b :: p) ++ (sep ++ T)) := by simp
    have n10 : (10 : UInt8) ∉ b :: p := by
      rcases hbb with rfl | rfl <;> simp [h10.1.2]
    have n13 : (13 : UInt8) ∉ b :: p := by
      rcases hbb with rfl | rfl <;> simp [h13.1.2]
    rw [e, hT, unfT_sep (b :: p) sep T [A] hs n10 n13 (by simp), if_pos hbl, if_neg (by simp)]
    rfl
theorem St.step {A p B s sep : Bs} {b : UInt8} (hl : Un.Good (A ++ p ++ B)) (hp : p ≠ []) (h : St A s) (hs : Sep sep) (hb : b = 32 ∨ b = 9) : St (A ++ p) (s ++ (p ++ (sep ++ [b]))) :=
  .inr ⟨s ++ (p ++ sep), b, hb, by simp, fun T => by
    have := St.row hl hp h hs T
    simpa using this⟩
theorem St.last {A B s : Bs} (hl : Un.Good (A ++ B)) (hB : B ≠ []) (h : St A s) : unfold (s ++ (B ++ [10])) = some [A ++ B] := by
  have := St.row (B := []) (by simpa using hl) hB h (.inl rfl) []
  rw [unfT_nil] at this
  simpa [unfT, unfold] using this

theorem blanks_end (x0 s : ByteArray) (hx : x0.size ≤ 2000) (hg : Un.Good (L x0)) (A B : Bs) (hL : L x0 = A ++ B) (hB : B ≠ []) (hS : St A (L s)) (hs : s.size ≤ 1000000) :
    Ev (fun k => if 0 ≤ (A.length : Int) then (if (A.length : Int) ≤ (x0.size : Int) then ((some (x0.extract (A.length : Int).toNat x0.size : ByteArray)).bind fun y => (if y.size + 1 ≤ 9223372036854775807 then (if s.size + (y ++ (⟨#[10]⟩ : ByteArray)).size ≤ 9223372036854775807 then ((fold_Unfold.f k (s ++ (y ++ (⟨#[10]⟩ : ByteArray)))).bind fun bt => (if bt.2 = 0 then (if (bt.1.length : Int) = 1 then (if 0 < (bt.1.length : Int) then (some ((rdOf ByteArray.empty bt.1 0).toList == x0.toList)) else (none)) else (some false)) else (some false))) else (none)) else (none))) else (none)) else (none)) true := by
  have hz := size_L x0
  have hlen : x0.size = A.length + B.length := by rw [hz, hL]; simp
  have g0 : (0 : Int) ≤ (A.length : Int) := by omega
  have g1 : (A.length : Int) ≤ (x0.size : Int) := by omega
  have hy : x0.extract A.length x0.size = ⟨B.toArray⟩ := eq_of_L (by rw [L_to, hL]; simp)
  have hyn : ((⟨B.toArray⟩ : ByteArray) ++ (⟨#[10]⟩ : ByteArray)).size = B.length + 1 := by rw [ByteArray.size_append, size_mk]; rfl
  have g2 : B.length + 1 ≤ 9223372036854775807 := by omega
  have g3 : s.size + (B.length + 1) ≤ 9223372036854775807 := by omega
  simp only [g0, g1, if_true, Int.toNat_natCast, hy, Option.bind_some, size_mk, hyn, g2, g3]
  have hu := unfold_any (s ++ ((⟨B.toArray⟩ : ByteArray) ++ (⟨#[10]⟩ : ByteArray))) (by rw [ByteArray.size_append, hyn]; omega)
  have e : L (s ++ ((⟨B.toArray⟩ : ByteArray) ++ (⟨#[10]⟩ : ByteArray))) = L s ++ (B ++ [10]) := by rw [L_append, L_append, L_mk]
  rw [e, St.last (hL ▸ hg) hB hS] at hu
  refine Ev.bind hu ?_
  have hf : ((rdOf ByteArray.empty [(⟨(A ++ B).toArray⟩ : ByteArray)] 0).toList == x0.toList) = true := by
    have : rdOf ByteArray.empty [(⟨(A ++ B).toArray⟩ : ByteArray)] 0 = x0 := by rw [← hL, mk_L]; rfl
    rw [this]; simp
  have c1 : (([(⟨(A ++ B).toArray⟩ : ByteArray)].length : Nat) : Int) = 1 := rfl
  have c2 : (0 : Int) < 1 := by decide
  simp only [outF, List.map_cons, List.map_nil, if_true, c1, c2, hf]
  exact Ev.now _
theorem u64_wrap_nonneg (z : Int) : 0 ≤ IntKind.u64.wrap z := by
  rw [IntKind.wrap_u64]; omega
theorem blanks_k (n : Nat) (hn : n ≤ 2000) (z : Int) : ∃ q : Nat, 1 ≤ q ∧ q ≤ 7 ∧ wrap64 ((n : Int) + wrap64 (1 + wrap64 (Int.tmod (IntKind.u64.wrap z) 7))) = ((n + q : Nat) : Int) := by
  have h0 := Int.tmod_nonneg 7 (u64_wrap_nonneg z)
  have h1 := Int.tmod_lt_of_pos (IntKind.u64.wrap z) (show (0 : Int) < 7 by decide)
  generalize Int.tmod (IntKind.u64.wrap z) 7 = m at h0 h1
  refine ⟨m.toNat + 1, by omega, by omega, ?_⟩
  rw [wrap_in (x := m) (by omega) (by omega), wrap_in (x := 1 + m) (by omega) (by omega), wrap_in (by omega) (by omega)]
  omega
abbrev seps : List ByteArray := [(⟨#[10, 32]⟩ : ByteArray), (⟨#[10, 9]⟩ : ByteArray), (⟨#[13, 10, 32]⟩ : ByteArray), (⟨#[13, 10, 9]⟩ : ByteArray)]
theorem blanks_sep (z : Int) : 0 ≤ Int.tmod (IntKind.u64.wrap z) 4 ∧ Int.tmod (IntKind.u64.wrap z) 4 < (seps.length : Int) ∧
    ∃ sep b, Sep sep ∧ (b = 32 ∨ b = 9) ∧ rdOf ByteArray.empty seps (Int.tmod (IntKind.u64.wrap z) 4) = ⟨(sep ++ [b]).toArray⟩ ∧ (sep ++ [b]).length ≤ 3 := by
  have h0 := Int.tmod_nonneg 4 (u64_wrap_nonneg z)
  have h1 := Int.tmod_lt_of_pos (IntKind.u64.wrap z) (show (0 : Int) < 4 by decide)
  generalize Int.tmod (IntKind.u64.wrap z) 4 = m at h0 h1
  refine ⟨h0, h1, ?_⟩
  have : m = 0 ∨ m = 1 ∨ m = 2 ∨ m = 3 := by omega
  rcases this with rfl | rfl | rfl | rfl
  · exact ⟨[10], 32, .inl rfl, .inl rfl, rfl, by decide⟩
  · exact ⟨[10], 9, .inl rfl, .inr rfl, rfl, by decide⟩
  · exact ⟨[13, 10], 32, .inr rfl, .inl rfl, rfl, by decide⟩
  · exact ⟨[13, 10], 9, .inr rfl, .inr rfl, rfl, by decide⟩
theorem blanks_loop (x0 : ByteArray) (hx : x0.size ≤ 2000) (hg : Un.Good (L x0)) (cuts : List Int) : ∀ (d i : Nat) (A B : Bs) (s : ByteArray), 20 - i = d → i ≤ 20 → i ≤ cuts.length → L x0 = A ++ B → B ≠ [] → St A (L s) → s.size ≤ A.length + 3 * i →
    Ev (fun k => calepinlaw02_FoldBlanks.l0 k x0 s (A.length : Int) cuts (cuts.length : Int) (i : Int)) true := by
  have hz := size_L x0
  intro d
  induction d with
  | zero =>
    intro i A B s hd hi hc hL hB hS hs
    have hlen : x0.size = A.length + B.length := by rw [hz, hL]; simp
    obtain rfl : i = 20 := by omega
    refine Ev.k1 ?_
    have he := blanks_end x0 s hx hg A B hL hB hS (by omega)
    by_cases g : ((20 : Nat) : Int) < (cuts.length : Int)
    · have g0 : (0 : Int) ≤ ((20 : Nat) : Int) := by decide
      have g1 : ((20 : Nat) : Int) ≥ 20 := by decide
      simp only [calepinlaw02_FoldBlanks.l0, g, g0, g1, if_true]
      exact he
    · simp only [calepinlaw02_FoldBlanks.l0, g, if_false]
      exact he
  | succ d ih =>
    intro i A B s hd hi hc hL hB hS hs
    have hlen : x0.size = A.length + B.length := by rw [hz, hL]; simp
    refine Ev.k1 ?_
    have he := blanks_end x0 s hx hg A B hL hB hS (by omega)
    by_cases g : (i : Int) < (cuts.length : Int)
    · have g0 : (0 : Int) ≤ (i : Int) := by omega
      have g1 : ¬ (i : Int) ≥ 20 := by omega
      obtain ⟨q, q1, q7, hq⟩ := blanks_k A.length (by omega) (rd cuts (i : Int))
      obtain ⟨j0, j1, sep, b, hsep, hb, hrd, h3⟩ := blanks_sep (Int.tdiv (IntKind.u64.wrap (rd cuts (i : Int))) 7)
      by_cases hge : ((A.length + q : Nat) : Int) ≥ (x0.size : Int)
      · simp only [calepinlaw02_FoldBlanks.l0, g, g0, g1, hq, hge, if_true, if_false]
        exact he
      · have hlt : A.length + q < x0.size := by clear hq; omega
        have k0 : (0 : Int) ≤ (A.length : Int) := by clear hq; omega
        have k1 : (A.length : Int) ≤ ((A.length + q : Nat) : Int) := by clear hq; omega
        have k2 : ((A.length + q : Nat) : Int) ≤ (x0.size : Int) := by clear hq; omega
        have hp : (B.take q) ≠ [] := by
          intro e
          have := congrArg List.length e
          rw [List.length_take, List.length_nil] at this
          clear hq; omega
        have hpl : (B.take q).length = q := by rw [List.length_take]; clear hq; omega
        have hy : x0.extract A.length (A.length + q) = ⟨(B.take q).toArray⟩ := eq_of_L (by
          rw [L_extract, hL]; simp)
        have hl1 : ((⟨(B.take q).toArray⟩ : ByteArray) ++ (⟨(sep ++ [b]).toArray⟩ : ByteArray)).size = q + (sep ++ [b]).length := by rw [ByteArray.size_append, size_mk, size_mk, hpl]
        have k3 : q + (sep ++ [b]).length ≤ 9223372036854775807 := by clear hq; omega
        have k4 : s.size + (q + (sep ++ [b]).length) ≤ 9223372036854775807 := by clear hq; omega
        have hw := wrap_succ (n := i) (by clear hq; omega)
        simp only [calepinlaw02_FoldBlanks.l0, g, g0, g1, hq, hge, if_true, if_false, k0, k1, k2, Int.toNat_natCast, hy, Option.bind_some, j0, j1, hrd, size_mk, hpl, hl1, k3, k4, hw]
        clear hq hw
        have hLB : A ++ B.take q ++ B.drop q = L x0 := by rw [hL, List.append_assoc, List.take_append_drop]
        have hAq : (A ++ B.take q).length = A.length + q := by rw [List.length_append, hpl]
        have hi := ih (i + 1) (A ++ B.take q) (B.drop q) (s ++ ((⟨(B.take q).toArray⟩ : ByteArray) ++ (⟨(sep ++ [b]).toArray⟩ : ByteArray))) (by omega) (by omega) (by omega) hLB.symm
          (by intro e; have := congrArg List.length e; rw [List.length_drop, List.length_nil] at this; omega)
          (by rw [L_append, L_append, L_mk, L_mk]; exact St.step (hLB ▸ hg) hp hS hsep hb)
          (by rw [ByteArray.size_append, hl1, hAq]; omega)
        rw [hAq] at hi
        exact hi
    · simp only [calepinlaw02_FoldBlanks.l0, g, if_false]
      exact he
theorem blanks_any (t : ByteArray) (cuts : List Int) (ht : t.size < 4294967281) : ∃ k, calepinlaw02_FoldBlanks.f k t cuts = some true := by
  refine Ev.rounds ?_
  unfold calepinlaw02_FoldBlanks.f
  refine Ev.bind first_any ?_
  simp only [if_true]
  have hj : Ev (fun k => calepinlaw02_FoldBlanks.j0 k t cuts true) true := by
    refine Ev.k1 ?_
    simp only [calepinlaw02_FoldBlanks.j0, if_true]
    exact Ev.now _
  rw [foldGood_any t ht]
  simp only [Option.bind_some]
  by_cases hg : Un.Good (L t)
  · simp only [hg, decide_true, if_true]
    by_cases hbig : (t.size : Int) > 2000
    · simp only [hbig, decide_true]
      exact hj
    · simp only [hbig, decide_false]
      refine Ev.k1 ?_
      simp only [calepinlaw02_FoldBlanks.j0, Bool.false_eq_true, if_false]
      have := blanks_loop t (by omega) hg cuts 20 0 [] (L t) ⟨#[]⟩ rfl (by omega) (by omega) rfl hg.1 (.inl ⟨rfl, rfl⟩) (by decide)
      exact this
  · simp only [hg, decide_false, Bool.false_eq_true, if_false]
    exact hj
end Go.Proofs.YtpjidedgifjgeaaDoor.Pf
