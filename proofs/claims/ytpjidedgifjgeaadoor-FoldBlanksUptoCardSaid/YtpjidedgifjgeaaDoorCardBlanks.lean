/- calepinlaw02.FoldBlanks answers true at every line and all cuts, and leaves them as they were: the second form (..UptoCardSaid: the bulk of the arguments is at most 1048576); package variables as the text lays them (the card ties them). -/
import Derived.ChangeSlices
import Derived.Carry
import Derived.Test.YtpjidedgifjgeaaDoorFit
import Derived.Test.YtpjidedgifjgeaaDoorCards
import Derived.Test.YtpjidedgifjgeaaDoorTie
import Derived.Test.YtpjidedgifjgeaaDoorBlanksLaw
namespace Go.Proofs.YtpjidedgifjgeaaDoor.CardBlanks
open Go.Shelf
open Go.Proofs.YtpjidedgifjgeaaDoorW.PrintWords
open Go.ChangeShapes Go.WideShapes Go.ChangeAt Go.RowKit
open Go.ChangeMaps (open_string shut_string)

theorem reads (os : Os) {H : Type} (enc : TypeId × Value → H) : ∃ places, DataW.whole enc Tryd.prog ((Fit.laidWorld os).forCall (fun _ _ => 0) ⟨#[], #[.string ⟨#[]⟩, .slice none 0 0], []⟩).memory Tryd.f7.params.toList Rows.foldBlanksSpec.vars false #[Value.string ⟨#[]⟩, Value.slice none 0 0].toList 8 = some ([.lit (.string []), .nil], [], places) :=
  ⟨[], by kernel_rfl⟩

theorem laidOut : laidOutB Tryd.prog = true := by kernel_rfl
theorem contract (H : Type) (enc : TypeId × Value → H) (W : World) (base : Nat) (args : Array Value) (ds gs : List (DataW H)) (before : List MemPlace)
    (hval : ∀ (j : Nat) t v, Tryd.f7.params[j]? = some t → args[j]? = some v → Value.okWide Tryd.prog W .any base t v)
    (hW : DataW.Whole enc Tryd.prog Tryd.f7.params.toList Rows.foldBlanksSpec.vars false W args.toList ds gs before) (hcond : Rows.uptoSmall H (ds ++ gs) = true) (hE : Pf.Env W) :
    Calls Tryd.prog 7 args W fun e W' => ∃ v, e = .returned v ∧ Rows.foldBlanksSpec.post enc Tryd.prog Tryd.f7 false true false false W args v W' := by
  have hW' := hW
  obtain ⟨p, q, hA0, hV, rfl, _, _⟩ := hW
  have hA : DataW.TrodAll enc Tryd.prog W 0 (fun _ => true) true Tryd.f7.params.toList args.toList ds p := hA0
  rw [Tryd.params7] at hA hval
  obtain ⟨v0, vs0, d0, ds0, p0, q0, hargs0, rfl, rfl, h0, r0⟩ := trodAll_cons hA
  obtain ⟨v1, vs1, d1, ds1, p1, q1, rfl, rfl, rfl, h1, r1⟩ := trodAll_cons r0
  obtain ⟨rfl, rfl, rfl⟩ := trodAll_nil r1
  obtain rfl : args = #[v0, v1] := by cases args; simp_all
  obtain ⟨rfl, rfl⟩ := trodVars_none hV
  obtain ⟨s, rfl, rfl, rfl, ws⟩ := open_string Tryd.underlying9 (hval 0 9 v0 rfl rfl) h0
  obtain ⟨a0, len, cap, rfl⟩ := okWide_slice Tryd.underlying34 (hval 1 34 v1 rfl rfl)
  have h0k := h1
  obtain ⟨fuel, hf⟩ := h1
  clear hA0 hV
  simp only [List.append_nil, List.nil_append] at hW'
  have hs : s.size < 4294967281 := by
    have h := of_decide_eq_true hcond
    simp only [List.append_nil, Rows.uptoBulkAll, Rows.uptoBulk] at h
    have : s.data.toList.length = s.size := (Lib.size_eq s).symm
    omega
  have hlt : ∀ x ∈ p1, x.block < W.heap.size := fun x hx => by simpa using hW'.lt x hx
  have hargs : ∀ (W' : World), Below W.heap.size W W' → DataW.Trod enc Tryd.prog W' 0 (fun b => decide (b < W.heap.size)) true 34 (.slice a0 len cap) d1 p1 :=
    fun W' hn => Below.trod laidOut (by kernel_rfl) (of_decide_eq_true (by kernel_rfl)) h0k hn hlt
  have hrow : ∃ cuts : List Int, cuts.length = len ∧ len ≤ cap ∧ Kd.C (Kd.int .i64) W a0 len cuts := by
    rcases open_ints Tryd.underlying34 Tryd.underlying3 (by kernel_rfl) hf with ⟨hcs, _⟩ | ⟨a, len', cap', ss, hcs, _, hl, hm, hz, _, hcell, _⟩
    · simp [Value.cells] at hcs
      obtain ⟨rfl, rfl, rfl⟩ := hcs
      exact ⟨[], rfl, Nat.le_refl _, rfl, by decide, fun h => absurd h (by decide)⟩
    · simp [Value.cells] at hcs
      obtain ⟨rfl, rfl, rfl⟩ := hcs
      simp only [if_true] at hz
      have hm' : cap ≤ 9223372036854775807 := hm
      refine ⟨ss.take len, by simp; omega, hl, by simp; omega, by omega, fun _ => ⟨a, rfl, fun j z hj => ?_⟩⟩
      obtain ⟨hjl, hje⟩ := List.getElem?_eq_some_iff.1 hj
      simp only [List.length_take] at hjl
      refine ⟨[.int .i64 z], rfl, rfl, fun i u hu => ?_⟩
      have hi : i = 0 := by
        have := (List.getElem?_eq_some_iff.1 hu).1
        simp at this; omega
      subst hi
      obtain rfl : Value.int .i64 z = u := by simpa using hu
      have hc := hcell j (by omega)
      have e : ss.getD j 0 = z := by
        rw [List.getD_eq_getElem?_getD, List.getElem?_eq_getElem (by omega)]
        rw [List.getElem_take] at hje
        exact hje
      rw [e] at hc
      show W.cell? (a.add (j * 1 + 0)) = _
      rw [Nat.mul_one, Nat.add_zero]
      exact hc
  obtain ⟨cuts, rfl, hcap, hC⟩ := hrow
  obtain ⟨k, hk⟩ := Pf.blanks_any s cuts hs
  refine (Pf.calepinlaw02_FoldBlanks.calls k s a0 cap cuts true W hC hcap hE hk).mono ?_
  rintro e W' ⟨rfl, bel⟩
  have e1 : (Rows.foldBlanksSpec).fn H ([.lit (.string s.data.toList), d1] ++ []) = { results := [.lit (.bool true)], args := [.lit (.string s.data.toList), d1] } := rfl
  refine ⟨_, rfl, _, _, _, [], p1, [], hW', ?_, ?_, ?_, bel.frame _, fun h => by cases h⟩
  · rw [e1]; exact trodAll_mk1 (shut_bool Tryd.underlying4 _)
  · rw [e1]; exact trodAll_mk2 (shut_string Tryd.underlying9 ws) (hargs _ bel)
  · rw [e1]; rfl

set_option maxRecDepth 100000 in
theorem liftedUpto (os : Os) (started : os.Started) (H : Type) (enc : TypeId × Value → H) (F : Stop.Interp) :
    ReturnsInHanded {} Tryd.checked os 7 .any ((Rows.OpenSpec.upto Rows.foldBlanksSpec).preRow enc Tryd.prog Tryd.f7 Rows.foldBlanksUptoRow.domain false Rows.foldBlanksUptoRow.laid) (((Rows.OpenSpec.upto Rows.foldBlanksSpec).at F).post enc Tryd.prog Tryd.f7 false true false false) := by
  obtain ⟨places, hx⟩ := reads os enc
  refine returnsInHanded_of_row (C := Tryd.checked) (s := Rows.OpenSpec.upto Rows.foldBlanksSpec) Fit.own started (by kernel_rfl) Tryd.func7
    (witness_row_atRef (enc := enc) (C := Tryd.checked) false (Fit.laidWorld os) #[.string ⟨#[]⟩, .slice none 0 0] rfl (by kernel_rfl) (by kernel_rfl) (by kernel_rfl)
      (OpenSpec.preRow_of_cond 8 hx (by kernel_rfl) (fun k hk => by cases hk; kernel_rfl) (by kernel_rfl) (Fit.laid_met os _))) ?_
  intro W base args ds gs before hval hW _ hcond _ hL hsh _
  exact contract H enc W base args ds gs before hval hW (hcond _ rfl) (Fit.env_of hL hsh)

theorem saidUpto : Rows.FoldBlanksUptoSaid :=
  OpenClaim.holds_of_cond 7 Tryd.f7 rfl rfl rfl rfl rfl rfl rfl ⟨rfl, rfl, rfl, rfl, rfl⟩ rfl rfl rfl rfl rfl (by kernel_rfl) Tryd.func7 (by kernel_rfl)
    (of_decide_eq_true (by kernel_rfl)) (by unfold Func.isWrapper; rw [if_neg (of_decide_eq_false (by kernel_rfl))]; exact ⟨rfl, rfl⟩)
    (fun os started H enc _ F => by rw [OpenClaim.pre_eq_preRow]; exact liftedUpto os started H enc F)

/-- No parameter wants a stand-in; the program's own looks are off: what the card asks. -/
theorem plain (f : FuncId) (fn : Func) (hf : Tryd.pinned.checked.prog.funcNamed "calepin/calepinlaw02.FoldBlanks" = some f) (hfn : Tryd.pinned.checked.prog.funcs[f]? = some fn) :
    false = Tryd.pinned.checked.prog.looks [] ∧ ∀ (j : Nat) t, fn.params[j]? = some t → Tryd.pinned.checked.prog.wantsStandIn t = false := by
  obtain rfl : f = 7 := Option.some.inj ((show Tryd.prog.funcNamed "calepin/calepinlaw02.FoldBlanks" = some 7 by kernel_rfl).symm.trans hf) |>.symm
  obtain rfl : fn = Tryd.f7 := (Option.some.inj (Tryd.func7.symm.trans hfn)).symm
  refine ⟨by kernel_rfl, fun j t ht => ?_⟩
  rw [Tryd.params7] at ht
  match j, ht with
  | 0, ht => obtain rfl : 9 = t := Option.some.inj ht; exact (show Tryd.prog.wantsStandIn 9 = false by kernel_rfl)
  | 1, ht => obtain rfl : 34 = t := Option.some.inj ht; exact (show Tryd.prog.wantsStandIn 34 = false by kernel_rfl)
  | n + 2, ht => cases ht

/-- THE CARD -/
theorem cardUpto : Rows.FoldBlanksUptoCardSaid :=
  Claim7.holds_tied_plain_at .later [] _ _ _ _ saidUpto (fun _ h => by cases h) (by kernel_rfl) (fun _ h => by cases h) foldBlanksUpto_row_tie rfl ⟨rfl, rfl⟩ (by kernel_rfl) rfl plain (by kernel_rfl)
#print axioms cardUpto
end Go.Proofs.YtpjidedgifjgeaaDoor.CardBlanks
