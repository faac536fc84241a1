/- disk: Flush. -/
import Derived.Test.YtcaipccgphblnaaClone
namespace Go.Proofs.Ytcaipccgphblnaa.Dk
open Go.RowKit Go.Proofs.YtcaipccgphblnaaW.PrintWords
set_option linter.unusedSimpArgs false
/-- Of what lay, nothing but block b has turned. -/
structure Old (b : Nat) (w w' : World) : Prop where
  os : w'.os = w.os
  tape : w'.tape = w.tape
  output : w'.output = w.output
  size : w.heap.size ≤ w'.heap.size
  block : ∀ k, k < w.heap.size → k ≠ b → w'.heap[k]? = w.heap[k]?
theorem But.old {b : Nat} {w w' : World} (h : But b w w') : Old b w w' := ⟨h.os, h.tape, h.output, Nat.le_of_eq h.size.symm, fun k _ hk => h.block k hk⟩
theorem Old.below {b : Nat} {w w1 w2 : World} (h : Old b w w1) (hb : Below w1.heap.size w1 w2) : Old b w w2 :=
  ⟨hb.os.trans h.os, hb.tape.trans h.tape, hb.output.trans h.output, Nat.le_trans h.size hb.size, fun k hk hkb => (hb.block k (Nat.lt_of_lt_of_le hk h.size)).trans (h.block k hk hkb)⟩
theorem Old.setCell {b : Nat} {w w' : World} (h : Old b w w') (i : Nat) (v : Value) : Old b w (w'.setCell ⟨b, i, none⟩ v) :=
  ⟨h.os, h.tape, h.output, by simpa using h.size, fun k hk hkb => (Below.heap_setCell w' ⟨b, i, none⟩ v k hkb).trans (h.block k hk hkb)⟩
theorem flush_calls (b m n : Nat) (room : Int) (D : DataW Unit) (safe : Value) (failing : Bool) (left : Int) (torn : Bool) (w : World) (hl : -9223372036854775808 ≤ left ∧ left ≤ 9223372036854775807)
    (hmb : m ≠ b) (hh : w.heap[b]? = some (DCells room (.map (some m)) safe failing left torn)) (hm : (mayS failing left torn).1.1 = true) (hD : w.ownsMap Try.prog 9 Rf m n D) :
    Calls Try.prog 11 #[.pointer (some ⟨b, 0, none⟩)] w fun e w' => e = .returned (.int .i64 0) ∧
      w'.heap[b]? = some (DCells room (.map (some m)) (.map (some w.heap.size)) failing (mayS failing left torn).2.1 (mayS failing left torn).2.2) ∧
      w'.ownsMap Try.prog 9 Rf w.heap.size n D ∧ w'.ownsMap Try.prog 9 Rf m n D ∧ Old b w w' := by
  have hbl : b < w.heap.size := (Array.getElem?_eq_some_iff.1 hh).1
  go_enter Try.func11, Try.ntmps11
  go_wp2_with (fail)
  refine (may_calls b room _ safe failing left torn w hl hh).mono ?_
  rintro e w1 ⟨rfl, hd, hb⟩
  rw [hm]
  have hD1 : w1.ownsMap Try.prog 9 Rf m n D := hD.kept (row := some b) ⟨hb.os, hb.tape, hb.output, Nat.le_of_eq hb.size.symm, fun k _ hk => hb.block k (fun e => hk (by rw [e]))⟩ (fun e => hmb (Option.some.inj e))
  have c1 : w1.cell? ⟨b, 1, none⟩ = some (.map (some m)) := by simp [World.cell?, hd, DCells]
  have HD := Aside0.mk hd
  have HB := Aside0.mk hb
  have HD1 := Aside0.mk hD1
  have HL := Aside0.mk hbl
  clear hd hb hh hm hl hD hD1 hbl
  go_wp2_with (fail)
  refine (clone_calls m n D w1 HD1.out).mono ?_
  rintro e w2 ⟨rfl, k1, k2, kb⟩
  have hd2 : w2.heap[b]? = some (DCells room (.map (some m)) safe failing (mayS failing left torn).2.1 (mayS failing left torn).2.2) := (kb.block b (by have := HB.out.size; have := HL.out; omega)).trans HD.out
  have c2 : w2.cell? ⟨b, 2, none⟩ = some safe := by simp [World.cell?, hd2, DCells]
  have f2 : w2.frozen? ⟨b, 2, none⟩ = false := by simp [World.frozen?, hd2, DCells]
  have HD2 := Aside0.mk hd2
  have K1 := Aside0.mk k1
  have K2 := Aside0.mk k2
  have KB := Aside0.mk kb
  clear hd2 k1 k2 kb c1
  go_wp2_with (fail)
  go_ret
  have hs := HB.out.size
  have hne : w1.heap.size ≠ b := by have := HL.out; omega
  refine ⟨rfl, ?_, ?_, ?_, (HB.out.old.below KB.out).setCell 2 _⟩
  · rw [hs]; simp [World.setCell, Array.getElem?_modify, HD2.out, DCells]
  · rw [← hs]; exact K1.out.setCell (a := ⟨b, 2, none⟩) hne _
  · exact K2.out.setCell (a := ⟨b, 2, none⟩) hmb _
end Go.Proofs.Ytcaipccgphblnaa.Dk
