/- calepinlaw17.DiskSwaps answers true at every two slices of bytes and every two numbers, and leaves them as they were: for every input (the full form), under no condition. -/
import Derived.Test.YtcaipccgphblnaaRows
import Derived.WalkKit
import Derived.ProofKit
import Derived.OpenShut
import Derived.Carry
import Derived.WideKeyPair
import Derived.ChangeSlices
import Derived.Test.YtcaipccgphblnaaSwaps
namespace Go.Proofs.Ytcaipccgphblnaa.Dk
open Go.ChangeShapes Go.WideShapes Go.ChangeAt Go.RowKit Go.WideMaps
theorem u8_of {n : Int} (h : (Lit.int .u8 n).wf = true) : Value.int .u8 n = bv (UInt8.ofNat n.toNat) := by
  have h2 : 0 ≤ n ∧ n ≤ 255 := by
    simp only [Lit.wf, Bool.and_eq_true, decide_eq_true_eq, IntKind.min, IntKind.max, IntKind.bits, IntKind.signed] at h
    simp at h
    omega
  have e : ((UInt8.ofNat n.toNat).toNat : Int) = n := by
    rw [UInt8.toNat_ofNat']
    omega
  rw [bv, e]
/-- An argument that is a slice of bytes is one that is read. -/
theorem open_bytes {H : Type} {enc : TypeId × Value → H} {W : World} {v : Value} {d : DataW H} {ps : List MemPlace} (hv : ∃ a n c, v = Value.slice a n c) (h : DataW.Trod enc Try.prog W 0 (fun _ => true) true 29 v d ps) : ∃ ys, Src W v ys := by
  obtain ⟨fuel, hf⟩ := h
  have hc : Try.prog.cellsOf 5 = 1 := by kernel_rfl
  obtain ⟨a, n, c, rfl⟩ := hv
  rcases open_ints Try.underlying29 Try.underlying5 hc hf with ⟨hcs, _⟩ | ⟨a', len, cap, zs, hcs, _, h1, h2, h3, _, h4, h5⟩
  · simp [Value.cells] at hcs
    obtain ⟨rfl, rfl, rfl⟩ := hcs
    exact ⟨[], .inl ⟨rfl, rfl⟩⟩
  · simp [Value.cells] at hcs
    obtain ⟨rfl, rfl, rfl⟩ := hcs
    simp at h3
    refine ⟨(zs.take n).map fun z => UInt8.ofNat z.toNat, .inr ⟨a', c, by simp; omega, by simp; omega, fun j x hj => ?_⟩⟩
    rw [List.getElem?_map] at hj
    cases hz : (zs.take n)[j]? with
    | none => rw [hz] at hj; cases hj
    | some z =>
      rw [hz] at hj
      cases hj
      rw [List.getElem?_take] at hz
      split at hz
      · rename_i hjn
        have hjl : j < zs.length := by omega
        rw [h4 j hjl]
        rw [List.getD_eq_getElem?_getD, hz]
        simp only [Option.getD_some]
        rw [u8_of (h5 z (List.mem_of_getElem? hz))]
      · cases hz
theorem arr34 : ArrKey Try.prog 34 3 2 := ⟨Try.underlying34, by kernel_rfl, by kernel_rfl, by kernel_rfl⟩
theorem laidOut : laidOutB Try.prog = true := by kernel_rfl
end Go.Proofs.Ytcaipccgphblnaa.Dk
namespace Go.Proofs.Ytcaipccgphblnaa.diskSwaps
open Go.ChangeShapes Go.WideShapes Go.ChangeAt Go.RowKit Go.WideMaps
set_option linter.unusedVariables false
theorem own : ownKnob Try.prog.godebug = none := by kernel_rfl

set_option maxRecDepth 100000 in
theorem lifted (os : Os) (started : os.Started) (H : Type) (enc : TypeId × Value → H) :
    ReturnsInHanded {} Try.checked os 4 .any (Rows.diskSwapsSpec.pre6 enc Try.prog Try.f4 Rows.diskSwapsRow.domain false) (Rows.diskSwapsSpec.post enc Try.prog Try.f4 false true false false) := by
  refine returnsInHanded_of_change (C := Try.checked) own started (by kernel_rfl) Try.func4
    (ChangeSpec.witness6 (enc := enc) (C := Try.checked) false ⟨#[], #[.slice none 0 0, .slice none 0 0, .agg #[.int .i64 0, .int .i64 0]], []⟩ 8 (by kernel_rfl) (by kernel_rfl) (by kernel_rfl) (by kernel_rfl)) ?_
  intro W base args ds gs before hval0 hW hcnd _
  have hval : ∀ (j : Nat) t v, Try.f4.params[j]? = some t → args[j]? = some v → Value.okWide Try.prog W .any base t v := hval0
  have hW' := hW
  obtain ⟨p, q, hA0, hV, rfl, hfz, hnd⟩ := hW
  have hA : DataW.TrodAll enc Try.prog W 0 (fun _ => true) true Try.f4.params.toList args.toList ds p := hA0
  rw [Try.params4] at hA hval
  obtain ⟨v0, vs0, d0, ds0, p0, q0, hargs, rfl, rfl, h0, r0⟩ := trodAll_cons hA
  obtain ⟨v1, vs1, d1, ds1, p1, q1, rfl, rfl, rfl, h1, r1⟩ := trodAll_cons r0
  obtain ⟨v2, vs2, d2, ds2, p2, q2, rfl, rfl, rfl, h2, r2⟩ := trodAll_cons r1
  obtain ⟨rfl, rfl, rfl⟩ := trodAll_nil r2
  obtain rfl : args = #[v0, v1, v2] := by cases args; simp_all
  obtain ⟨rfl, rfl⟩ := trodVars_none hV
  obtain ⟨xs, hx⟩ := Dk.open_bytes (okWide_slice Try.underlying29 (hval 0 29 v0 rfl rfl)) h0
  obtain ⟨ys, hy⟩ := Dk.open_bytes (okWide_slice Try.underlying29 (hval 1 29 v1 rfl rfl)) h1
  have h2k := h2
  obtain ⟨a, b, rfl, hd2, hp2, _, _⟩ := open_pair Dk.arr34 Try.underlying3 (hval 2 34 v2 rfl rfl) h2
  clear hA0 hval0
  simp only [List.append_nil] at hW'
  have hlt : ∀ x ∈ p0 ++ (p1 ++ p2), x.block < W.heap.size := fun x hx => by simpa using hW'.lt x hx
  refine (Dk.swaps_calls v0 v1 xs ys a b W hx hy).mono fun e W' ⟨he, hb⟩ => ?_
  subst he
  have e1 : (Rows.diskSwapsSpec).fn H ([d0, d1, d2] ++ []) = { results := [.lit (.bool true)], args := [d0, d1, d2] } := rfl
  refine ⟨_, rfl, _, _, _, [], p0 ++ (p1 ++ (p2 ++ [])), [], hW', ?_, ?_, ?_, World.keptBut_mono (fun x hx => ⟨hx, ?_⟩) (hb.frame (· ∈ p0 ++ (p1 ++ p2))), fun h => by cases h⟩
  · rw [e1]; exact trodAll_cons_mk (shut_bool Try.underlying4 _) trodAll_mk0
  · rw [e1]
    exact trodAll_cons_mk (Below.trod Dk.laidOut (by kernel_rfl) (of_decide_eq_true (by kernel_rfl)) h0 hb (fun x hx => hlt x (by simp [hx])))
      (trodAll_cons_mk (Below.trod Dk.laidOut (by kernel_rfl) (of_decide_eq_true (by kernel_rfl)) h1 hb (fun x hx => hlt x (by simp [hx])))
      (trodAll_cons_mk (Below.trod Dk.laidOut (by kernel_rfl) (of_decide_eq_true (by kernel_rfl)) h2k hb (fun x hx => hlt x (by simp [hx]))) trodAll_mk0))
  · rw [e1]; rfl
  · simpa using hx

theorem over : Rows.diskSwapsRow.holds Try.pinned (OpenSpec.ofChange Rows.diskSwapsSpec) :=
  OpenClaim.holds_of_wide 4 Try.f4 rfl rfl rfl rfl rfl rfl rfl ⟨rfl, rfl, rfl, rfl, rfl⟩ rfl rfl rfl rfl rfl (by kernel_rfl) Try.func4 (by kernel_rfl)
    (of_decide_eq_true (by kernel_rfl)) (by unfold Func.isWrapper; first | (rw [if_pos (by decide +kernel)]; kernel_rfl) | (rw [if_neg (by decide +kernel)]; exact ⟨rfl, rfl⟩))
    (fun os started H enc _ => lifted os started H enc)

theorem proved : Rows.DiskSwapsSaid :=
  over
#print axioms proved
end Go.Proofs.Ytcaipccgphblnaa.diskSwaps
