/- calepinlaw06.PathApart answers true at every two pairs of texts, and leaves them as they were: the second form (..UptoCardSaid). -/
import Derived.OpenShut
import Derived.Carry
import Derived.Test.YtpifopiopgbbaaaDoorFit
import Derived.Test.YtpifopiopgbbaaaDoorCards
import Derived.Test.YtpifopiopgbbaaaDoorTie
import Derived.Test.YtpifopiopgbbaaaDoorApartWalk
namespace Go.Proofs.YtpifopiopgbbaaaDoor.CardApart
open Go.Shelf
open Go.Proofs.YtpifopiopgbbaaaDoorW.PrintWords
open Go.ChangeShapes Go.WideShapes Go.ChangeAt Go.RowKit
open Go.ChangeMaps (open_string shut_string)

theorem reads (os : Os) {H : Type} (enc : TypeId × Value → H) : ∃ places, DataW.whole enc Tryd.prog ((Fit.laidWorld os).forCall (fun _ _ => 0) ⟨#[], #[.string ⟨#[]⟩, .string ⟨#[]⟩], []⟩).memory Tryd.f5.params.toList Rows.pathApartSpec.vars false #[Value.agg #[.string ⟨#[]⟩, .string ⟨#[]⟩], Value.agg #[.string ⟨#[]⟩, .string ⟨#[]⟩]].toList 8 = some ([.agg [.lit (.string []), .lit (.string [])], .agg [.lit (.string []), .lit (.string [])]], [], places) :=
  ⟨[], by kernel_rfl⟩

theorem laidOut : laidOutB Tryd.prog = true := by kernel_rfl
section
variable {H : Type} {enc : TypeId × Value → H} {W : World} {base : Nat} {spare : Nat → Bool} {held : Bool}
theorem trod_array2 {fuel : Nat} {c0 c1 : Value} {x : DataW H × List MemPlace}
    (h : DataW.trod enc Tryd.prog W base spare held fuel 36 [c0, c1] = some x) :
    ∃ a b : ByteArray, c0 = .string a ∧ c1 = .string b ∧ x = (.agg [.lit (.string a.data.toList), .lit (.string b.data.toList)], []) := by
  have hce : Tryd.prog.cellsOf 9 = 1 := by kernel_rfl
  obtain ⟨xs, m, _, hx, _, hl, he⟩ := DataW.trod_array Tryd.underlying36 h
  have e0 := he 0 (by decide)
  have e1 := he 1 (by decide)
  rw [hce] at e0 e1
  match xs, hl with
  | [y0, y1], _ =>
    obtain ⟨a, ha, hb, _⟩ := DataW.trod_string Tryd.underlying9 (show DataW.trod enc Tryd.prog W base spare held m 9 [c0] = some y0 from e0)
    obtain ⟨b, ha1, hb1, _⟩ := DataW.trod_string Tryd.underlying9 (show DataW.trod enc Tryd.prog W base spare held m 9 [c1] = some y1 from e1)
    simp only [List.cons.injEq, and_true] at ha ha1
    refine ⟨a, b, ha, ha1, ?_⟩
    rw [hx, hb, hb1]
    rfl
theorem open_pair {r : Reach} {b0 : Nat} {v : Value} {d : DataW H} {p : List MemPlace} (hv : Value.okWide Tryd.prog W r b0 36 v) (h : DataW.Trod enc Tryd.prog W base spare held 36 v d p) :
    ∃ a b : ByteArray, v = .agg #[.string a, .string b] ∧ d = .agg [.lit (.string a.data.toList), .lit (.string b.data.toList)] ∧ p = [] := by
  simp only [Value.okWide, Tryd.underlying36] at hv
  obtain ⟨cs, rfl, h2, _⟩ := hv
  have hc2 : Tryd.prog.cellsOf 36 = 2 := by kernel_rfl
  rw [hc2] at h2
  obtain ⟨fuel, hf⟩ := h
  have e : ∃ c0 c1, cs = #[c0, c1] := by
    obtain ⟨l⟩ := cs
    match l, h2 with
    | [c0, c1], _ => exact ⟨c0, c1, rfl⟩
  obtain ⟨c0, c1, rfl⟩ := e
  obtain ⟨a, b, rfl, rfl, hx⟩ := trod_array2 (show DataW.trod enc Tryd.prog W base spare held fuel 36 [c0, c1] = some (d, p) from hf)
  simp only [Prod.mk.injEq] at hx
  exact ⟨a, b, rfl, hx.1, hx.2⟩
end
theorem contract (H : Type) (enc : TypeId × Value → H) (W : World) (base : Nat) (args : Array Value) (ds gs : List (DataW H)) (before : List MemPlace)
    (hval : ∀ (j : Nat) t v, Tryd.f5.params[j]? = some t → args[j]? = some v → Value.okWide Tryd.prog W .any base t v)
    (hW : DataW.Whole enc Tryd.prog Tryd.f5.params.toList Rows.pathApartSpec.vars false W args.toList ds gs before) (hcond : Rows.uptoSmall H (ds ++ gs) = true) (hE : Pa.Env W) :
    Calls Tryd.prog 5 args W fun e W' => ∃ v, e = .returned v ∧ Rows.pathApartSpec.post enc Tryd.prog Tryd.f5 false true false false W args v W' := by
  have hW' := hW
  obtain ⟨p, q, hA0, hV, rfl, _, _⟩ := hW
  have hA : DataW.TrodAll enc Tryd.prog W 0 (fun _ => true) true Tryd.f5.params.toList args.toList ds p := hA0
  rw [Tryd.params5] at hA hval
  obtain ⟨v0, vs0, d0, ds0, p0, q0, hargs0, rfl, rfl, h0, r0⟩ := trodAll_cons hA
  obtain ⟨v1, vs1, d1, ds1, p1, q1, rfl, rfl, rfl, h1, r1⟩ := trodAll_cons r0
  obtain ⟨rfl, rfl, rfl⟩ := trodAll_nil r1
  obtain rfl : args = #[v0, v1] := by cases args; simp_all
  obtain ⟨rfl, rfl⟩ := trodVars_none hV
  have k0 := h0
  have k1 := h1
  obtain ⟨x0, x1, rfl, rfl, rfl⟩ := open_pair (hval 0 36 v0 rfl rfl) h0
  obtain ⟨y0, y1, rfl, rfl, rfl⟩ := open_pair (hval 1 36 v1 rfl rfl) h1
  clear hA0 hV
  have hs : x0.size + x1.size + y0.size + y1.size ≤ 100000000 := by
    have h := of_decide_eq_true hcond
    simp only [List.append_nil, Rows.uptoBulkAll, Rows.uptoBulk] at h
    have : x0.data.toList.length = x0.size := (Lib.size_eq x0).symm
    have : x1.data.toList.length = x1.size := (Lib.size_eq x1).symm
    have : y0.data.toList.length = y0.size := (Lib.size_eq y0).symm
    have : y1.data.toList.length = y1.size := (Lib.size_eq y1).symm
    omega
  refine (Pf.apart_calls x0 x1 y0 y1 W hs hE).mono ?_
  rintro e W' ⟨rfl, bel⟩
  have e1 : ∀ d1 d2 : DataW H, (Rows.pathApartSpec).fn H ([d1, d2] ++ []) = { results := [.lit (.bool true)], args := [d1, d2] } := fun _ _ => rfl
  have t0 := Below.trod laidOut (by kernel_rfl) (of_decide_eq_true (by kernel_rfl)) k0 bel (fun x hx => by cases hx)
  have t1 := Below.trod laidOut (by kernel_rfl) (of_decide_eq_true (by kernel_rfl)) k1 bel (fun x hx => by cases hx)
  refine ⟨_, rfl, _, _, _, [], [], [], hW', ?_, ?_, ?_, bel.frame _, fun h => by cases h⟩
  · rw [e1]; exact trodAll_mk1 (shut_bool Tryd.underlying4 _)
  · rw [e1]; exact trodAll_mk2 t0 t1
  · rw [e1]; rfl

set_option maxRecDepth 100000 in
theorem liftedUpto (os : Os) (started : os.Started) (H : Type) (enc : TypeId × Value → H) (F : Stop.Interp) :
    ReturnsInHanded {} Tryd.checked os 5 .any ((Rows.OpenSpec.upto Rows.pathApartSpec).preRow enc Tryd.prog Tryd.f5 Rows.pathApartUptoRow.domain false Rows.pathApartUptoRow.laid) (((Rows.OpenSpec.upto Rows.pathApartSpec).at F).post enc Tryd.prog Tryd.f5 false true false false) := by
  obtain ⟨places, hx⟩ := reads os enc
  refine returnsInHanded_of_row (C := Tryd.checked) (s := Rows.OpenSpec.upto Rows.pathApartSpec) Fit.own started (by kernel_rfl) Tryd.func5
    (witness_row_atRef (enc := enc) (C := Tryd.checked) false (Fit.laidWorld os) #[.agg #[.string ⟨#[]⟩, .string ⟨#[]⟩], .agg #[.string ⟨#[]⟩, .string ⟨#[]⟩]] rfl (by kernel_rfl) (by kernel_rfl) (by kernel_rfl)
      (OpenSpec.preRow_of_cond 8 hx (by kernel_rfl) (fun k hk => by cases hk; kernel_rfl) (by kernel_rfl) (Fit.laid_met os _))) ?_
  intro W base args ds gs before hval hW _ hcond _ hL hsh _
  exact contract H enc W base args ds gs before hval hW (hcond _ rfl) (Fit.env_of hL hsh)

theorem saidUpto : Rows.PathApartUptoSaid :=
  OpenClaim.holds_of_cond 5 Tryd.f5 rfl rfl rfl rfl rfl rfl rfl ⟨rfl, rfl, rfl, rfl, rfl⟩ rfl rfl rfl rfl rfl (by kernel_rfl) Tryd.func5 (by kernel_rfl)
    (of_decide_eq_true (by kernel_rfl)) (by unfold Func.isWrapper; rw [if_neg (of_decide_eq_false (by kernel_rfl))]; exact ⟨rfl, rfl⟩)
    (fun os started H enc _ F => by rw [OpenClaim.pre_eq_preRow]; exact liftedUpto os started H enc F)

/-- No parameter wants a stand-in; the program's own looks are off: what the card asks. -/
theorem plain (f : FuncId) (fn : Func) (hf : Tryd.pinned.checked.prog.funcNamed "calepin/calepinlaw06.PathApart" = some f) (hfn : Tryd.pinned.checked.prog.funcs[f]? = some fn) :
    false = Tryd.pinned.checked.prog.looks [] ∧ ∀ (j : Nat) t, fn.params[j]? = some t → Tryd.pinned.checked.prog.wantsStandIn t = false := by
  obtain rfl : f = 5 := Option.some.inj ((show Tryd.prog.funcNamed "calepin/calepinlaw06.PathApart" = some 5 by kernel_rfl).symm.trans hf) |>.symm
  obtain rfl : fn = Tryd.f5 := (Option.some.inj (Tryd.func5.symm.trans hfn)).symm
  refine ⟨by kernel_rfl, fun j t ht => ?_⟩
  rw [Tryd.params5] at ht
  match j, ht with
  | 0, ht => obtain rfl : 36 = t := Option.some.inj ht; exact (show Tryd.prog.wantsStandIn 36 = false by kernel_rfl)
  | 1, ht => obtain rfl : 36 = t := Option.some.inj ht; exact (show Tryd.prog.wantsStandIn 36 = false by kernel_rfl)
  | n + 2, ht => cases ht

/-- THE CARD -/
theorem cardUpto : Rows.PathApartUptoCardSaid :=
  Claim7.holds_tied_plain_at .later [] _ _ _ _ saidUpto (fun _ h => by cases h) (by kernel_rfl) (fun _ h => by cases h) pathApartUpto_row_tie rfl ⟨rfl, rfl⟩ (by kernel_rfl) rfl plain (by kernel_rfl)
#print axioms cardUpto
end Go.Proofs.YtpifopiopgbbaaaDoor.CardApart
