/- disk: arguments opened: bytes, scripts. -/
import Derived.Test.YtcaipccgphblnaaRows
import Derived.WalkKit
import Derived.ProofKit
import Derived.OpenShut
import Derived.Carry
import Derived.WideKeyPair
import Derived.ChangeSlices
import Derived.Deep.Slices
import Derived.Test.YtcaipccgphblnaaStep3
namespace Go.Proofs.Ytcaipccgphblnaa.Dk
open Go.ChangeShapes Go.WideShapes Go.ChangeAt Go.RowKit Go.WideMaps Go.Deep
set_option linter.unusedSimpArgs false
theorem u8_is {n : Int} (h : (Lit.int .u8 n).wf = true) : Value.int .u8 n = bv (UInt8.ofNat n.toNat) := by
  have h2 : 0 ≤ n ∧ n ≤ 255 := by
    simp only [Lit.wf, Bool.and_eq_true, decide_eq_true_eq, IntKind.min, IntKind.max, IntKind.bits, IntKind.signed] at h
    simp at h
    omega
  have e : ((UInt8.ofNat n.toNat).toNat : Int) = n := by
    rw [UInt8.toNat_ofNat']
    omega
  rw [bv, e]
theorem i64_is {n : Int} (h : (Lit.int .i64 n).wf = true) : -9223372036854775808 ≤ n ∧ n ≤ 9223372036854775807 := by
  simp only [Lit.wf, Bool.and_eq_true, decide_eq_true_eq, IntKind.min, IntKind.max, IntKind.bits, IntKind.signed] at h
  simp at h
  omega
section
variable {H : Type} {enc : TypeId × Value → H} {W : World}
/-- Cells that are read as a slice of bytes. -/
theorem bytes_cells {fuel : Nat} {c : Value} {x : DataW H × List MemPlace} (hf : DataW.trod enc Try.prog W 0 (fun _ => true) true fuel 29 [c] = some x) : ∃ ys, Src W c ys := by
  have hc : Try.prog.cellsOf 5 = 1 := by kernel_rfl
  rcases open_ints Try.underlying29 Try.underlying5 hc hf with ⟨hcs, _⟩ | ⟨a', len, cap, zs, hcs, _, h1, h2, h3, _, h4, h5⟩
  · simp only [List.cons.injEq, and_true] at hcs
    subst hcs
    exact ⟨[], .inl ⟨rfl, rfl⟩⟩
  · simp only [List.cons.injEq, and_true] at hcs
    subst hcs
    simp only [if_true] at h3
    refine ⟨(zs.take len).map fun z => UInt8.ofNat z.toNat, .inr ⟨a', cap, by simp; omega, by simp; omega, fun j x hj => ?_⟩⟩
    rw [List.getElem?_map] at hj
    cases hz : (zs.take len)[j]? with
    | none => rw [hz] at hj; cases hj
    | some z =>
      rw [hz] at hj
      cases hj
      rw [List.getElem?_take] at hz
      split at hz
      · rename_i hjn
        have hjl : j < zs.length := by omega
        rw [h4 j hjl]
        rw [List.getD_eq_getElem?_getD, hz]
        simp only [Option.getD_some]
        rw [u8_is (h5 z (List.mem_of_getElem? hz))]
      · cases hz
theorem bytes_open {v : Value} {d : DataW H} {ps : List MemPlace} (hv : ∃ a n c, v = Value.slice a n c) (h : DataW.Trod enc Try.prog W 0 (fun _ => true) true 29 v d ps) : ∃ ys, Src W v ys := by
  obtain ⟨fuel, hf⟩ := h
  obtain ⟨a, n, c, rfl⟩ := hv
  exact bytes_cells hf
/-- A script's operation, as it lies. -/
structure OprAt (W : World) (b : Nat) (k : Nat) (o : Opr) (x : Value) : Prop where
  c0 : W.cell? ⟨b, k, none⟩ = some (.int .i64 o.k)
  c1 : W.cell? ⟨b, k + 1, none⟩ = some (.int .i64 o.a)
  c2 : W.cell? ⟨b, k + 2, none⟩ = some (.int .i64 o.c)
  c3 : W.cell? ⟨b, k + 3, none⟩ = some (.int .i64 o.n)
  c4 : W.cell? ⟨b, k + 4, none⟩ = some x
  src : Src W x o.d
  n : -9223372036854775808 ≤ o.n ∧ o.n ≤ 9223372036854775807
theorem list5 {α : Type} {l : List α} (h : l.length = 5) : ∃ a b c d e, l = [a, b, c, d, e] := by
  match l, h with
  | [a, b, c, d, e], _ => exact ⟨a, b, c, d, e, rfl⟩
theorem choose_list {α : Type} (P : Nat → α → Prop) : ∀ n : Nat, (∀ j, j < n → ∃ o, P j o) → ∃ os : List α, os.length = n ∧ ∀ j o, os[j]? = some o → P j o
  | 0, _ => ⟨[], rfl, fun j o h => by simp at h⟩
  | n + 1, h => by
    obtain ⟨os, hl, hp⟩ := choose_list P n fun j hj => h j (by omega)
    obtain ⟨o, ho⟩ := h n (by omega)
    refine ⟨os ++ [o], by simp [hl], fun j x hx => ?_⟩
    by_cases e : j < os.length
    · rw [List.getElem?_append_left e] at hx; exact hp j x hx
    · rw [List.getElem?_append_right (by omega)] at hx
      have hj : j - os.length = 0 := by
        have := (List.getElem?_eq_some_iff.1 hx).1
        simp at this; omega
      rw [hj] at hx
      simp at hx
      subst hx
      have : j = n := by omega
      subst this; exact ho
/-- A slice of a script's operations. -/
def Script (W : World) (v : Value) (os : List Opr) : Prop := ∃ (a : Option Addr) (cap : Nat), v = .slice a os.length cap ∧ os.length ≤ cap ∧ cap ≤ maxLen ∧ (os ≠ [] → ∃ b k0, a = some ⟨b, k0, none⟩ ∧ ∀ j o, os[j]? = some o → ∃ x, OprAt W b (k0 + j * 5) o x)
theorem script_open {v : Value} {d : DataW H} {ps : List MemPlace} (hv : ∃ a n c, v = Value.slice a n c) (h : DataW.Trod enc Try.prog W 0 (fun _ => true) true 40 v d ps) : ∃ os, Script W v os := by
  obtain ⟨fuel, hf⟩ := h
  obtain ⟨a0, n0, c0, rfl⟩ := hv
  have hC : Try.prog.cellsOf 42 = 5 := by kernel_rfl
  rcases open_slice Try.underlying40 hf with ⟨hcs, _⟩ | ⟨a, len, cap, m, n, D, Pl, hcs, hb, hl, hm, hmm, hx, hi⟩
  · simp only [Value.cells, List.cons.injEq, and_true, Array.toList] at hcs
    simp at hcs
    obtain ⟨rfl, rfl, rfl⟩ := hcs
    exact ⟨[], none, 0, rfl, Nat.le_refl _, Nat.zero_le _, fun h => absurd rfl h⟩
  · simp [Value.cells] at hcs
    obtain ⟨rfl, rfl, rfl⟩ := hcs
    simp only [if_true] at hmm
    subst hmm
    obtain ⟨os, hol, hop⟩ := choose_list (fun j (o : Opr) => ∃ x, W.cell? (a.add (j * 5)) = some (.int .i64 o.k) ∧ W.cell? (a.add (j * 5 + 1)) = some (.int .i64 o.a) ∧ W.cell? (a.add (j * 5 + 2)) = some (.int .i64 o.c) ∧ W.cell? (a.add (j * 5 + 3)) = some (.int .i64 o.n) ∧ W.cell? (a.add (j * 5 + 4)) = some x ∧ Src W x o.d ∧ (-9223372036854775808 ≤ o.n ∧ o.n ≤ 9223372036854775807)) n0 (fun i hil => by
      obtain ⟨cs', hc, ht'⟩ := hi i (by omega)
      rw [hC] at hc
      obtain ⟨xs, n', _, _, hlen, hxl, hfs⟩ := DataW.trod_struct Try.underlying42 ht'
      rw [hC] at hlen
      obtain ⟨_, _, hat⟩ := World.cells?_some hc
      obtain ⟨e0, e1, e2, e3, e4, rfl⟩ := list5 hlen
      have h3 : Try.prog.cellsOf 3 = 1 := by kernel_rfl
      have h29 : Try.prog.cellsOf 29 = 1 := by kernel_rfl
      have hxl' : xs.length = 5 := hxl
      have f0 : DataW.trod enc Try.prog W 0 (fun _ => true) true n' 3 (([e0, e1, e2, e3, e4].drop 0).take (Try.prog.cellsOf 3)) = xs[0]? := hfs 0 _ rfl
      have f1 : DataW.trod enc Try.prog W 0 (fun _ => true) true n' 3 (([e0, e1, e2, e3, e4].drop 1).take (Try.prog.cellsOf 3)) = xs[1]? := hfs 1 _ rfl
      have f2 : DataW.trod enc Try.prog W 0 (fun _ => true) true n' 3 (([e0, e1, e2, e3, e4].drop 2).take (Try.prog.cellsOf 3)) = xs[2]? := hfs 2 _ rfl
      have f3 : DataW.trod enc Try.prog W 0 (fun _ => true) true n' 3 (([e0, e1, e2, e3, e4].drop 3).take (Try.prog.cellsOf 3)) = xs[3]? := hfs 3 _ rfl
      have f4 : DataW.trod enc Try.prog W 0 (fun _ => true) true n' 29 (([e0, e1, e2, e3, e4].drop 4).take (Try.prog.cellsOf 29)) = xs[4]? := hfs 4 _ rfl
      rw [List.getElem?_eq_getElem (by omega)] at f0 f1 f2 f3 f4
      simp only [h3, h29, List.drop_zero, List.drop_succ_cons, List.take_succ_cons, List.take_zero] at f0 f1 f2 f3 f4
      obtain ⟨z0, q0, _, _⟩ := DataW.trod_int Try.underlying3 f0
      obtain ⟨z1, q1, _, _⟩ := DataW.trod_int Try.underlying3 f1
      obtain ⟨z2, q2, _, _⟩ := DataW.trod_int Try.underlying3 f2
      obtain ⟨z3, q3, _, w3⟩ := DataW.trod_int Try.underlying3 f3
      obtain ⟨ys, hys⟩ := bytes_cells f4
      simp only [List.cons.injEq, and_true] at q0 q1 q2 q3
      subst q0 q1 q2 q3
      have g0 := hat (i := 0) (by omega)
      have g1 := hat (i := 1) (by omega)
      have g2 := hat (i := 2) (by omega)
      have g3 := hat (i := 3) (by omega)
      have g4 := hat (i := 4) (by omega)
      rw [add_add] at g0 g1 g2 g3 g4
      exact ⟨⟨z0, z1, z2, z3, ys⟩, e4, g0, g1, g2, g3, g4, hys, i64_is w3⟩)
    refine ⟨os, some a, m, by rw [hol], by omega, hm, fun hne => ?_⟩
    have h0 : 0 < os.length := List.length_pos_iff.2 hne
    obtain ⟨x, g0, _⟩ := hop 0 _ (List.getElem?_eq_getElem h0)
    obtain ⟨ab, ao, asp⟩ := a
    have hsp : asp = none := by simpa [Addr.add] using World.cell?_spot g0
    subst hsp
    refine ⟨ab, ao, rfl, fun j o hj => ?_⟩
    obtain ⟨x, g0, g1, g2, g3, g4, hs, hn⟩ := hop j o hj
    have hadd : ∀ i, (⟨ab, ao, none⟩ : Addr).add i = ⟨ab, ao + i, none⟩ := fun i => by unfold Addr.add; split <;> simp_all
    rw [hadd] at g0 g1 g2 g3 g4
    exact ⟨x, g0, g1, g2, g3, g4, hs, hn⟩
theorem Src.lies {v : Value} {ys : Bs} (h : Src W v ys) : Lies (fun k => k < W.heap.size) v := fun a n k e hn => by
  rcases h with ⟨rfl, _⟩ | ⟨a', cap, rfl, hcp, hc⟩
  · cases e
  · cases e
    have h0 : 0 < ys.length := by omega
    have := World.block_lt_of_cell? W _ (hc 0 _ (List.getElem?_eq_getElem h0))
    rwa [add_block] at this
end
end Go.Proofs.Ytcaipccgphblnaa.Dk
