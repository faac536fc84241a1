/- disk: the Disk's block; may, Fail, New; the function that Sync hands on. -/
import Derived.Test.YtcaipccgphblnaaWWords
import Derived.Test.YtcaipccgphblnaaProg
import Derived.Test.YtcaipccgphblnaaMod
import Derived.WalkKit
import Derived.Carry
namespace Go.Proofs.Ytcaipccgphblnaa.Dk
open Go.RowKit Go.Proofs.YtcaipccgphblnaaW.PrintWords
set_option linter.unusedSimpArgs false

/-- The Disk's own block. -/
def DCells (room : Int) (dir safe : Value) (failing : Bool) (left : Int) (torn : Bool) : Obj :=
  .cells #[.int .i64 room, dir, safe, .bool failing, .int .i64 left, .bool torn] 59 (0, 0)
/-- Nothing but block b has turned. -/
structure But (b : Nat) (w w' : World) : Prop where
  os : w'.os = w.os
  tape : w'.tape = w.tape
  output : w'.output = w.output
  size : w'.heap.size = w.heap.size
  block : ∀ k, k ≠ b → w'.heap[k]? = w.heap[k]?
theorem But.refl (b : Nat) (w : World) : But b w w := ⟨rfl, rfl, rfl, rfl, fun _ _ => rfl⟩
theorem But.setCell {b : Nat} {w w' : World} (h : But b w w') (i : Nat) (v : Value) : But b w (w'.setCell ⟨b, i, none⟩ v) :=
  ⟨h.os, h.tape, h.output, by simp [h.size], fun k hk => (Below.heap_setCell w' ⟨b, i, none⟩ v k hk).trans (h.block k hk)⟩
theorem may_calls (b : Nat) (room : Int) (dir safe : Value) (failing : Bool) (left : Int) (torn : Bool) (w : World) (hl : -9223372036854775808 ≤ left ∧ left ≤ 9223372036854775807)
    (hh : w.heap[b]? = some (DCells room dir safe failing left torn)) :
    Calls Try.prog 22 #[.pointer (some ⟨b, 0, none⟩)] w fun e w' => e = .returned (.tuple #[.bool (mayS failing left torn).1.1, .bool (mayS failing left torn).1.2]) ∧
      w'.heap[b]? = some (DCells room dir safe failing (mayS failing left torn).2.1 (mayS failing left torn).2.2) ∧ But b w w' := by
  have c3 : w.cell? ⟨b, 3, none⟩ = some (.bool failing) := by simp [World.cell?, hh, DCells]
  have c4 : w.cell? ⟨b, 4, none⟩ = some (.int .i64 left) := by simp [World.cell?, hh, DCells]
  have c5 : w.cell? ⟨b, 5, none⟩ = some (.bool torn) := by simp [World.cell?, hh, DCells]
  have f4 : w.frozen? ⟨b, 4, none⟩ = false := by simp [World.frozen?, hh, DCells]
  have f5 : w.frozen? ⟨b, 5, none⟩ = false := by simp [World.frozen?, hh, DCells]
  have HH := Aside0.mk hh
  clear hh
  by_cases hf : failing = false
  · subst hf
    go_enter Try.func22, Try.ntmps22
    go_wp2_with (fail)
    go_ret2
    exact ⟨rfl, HH.out, But.refl _ _⟩
  · obtain rfl : failing = true := by simpa using hf
    by_cases h0 : left > 0
    · have hm : mayS true left torn = ((true, false), (left - 1, torn)) := by simp [mayS, h0]
      rw [hm]
      have d0 : decide (0 < left) = true := decide_eq_true h0
      have HW := Aside0.mk (show wrap64 (left - 1) = left - 1 by unfold wrap64; omega)
      clear h0 hm hf
      go_enter Try.func22, Try.ntmps22
      go_wp2_with (fail)
      go_ret2
      refine ⟨rfl, ?_, (But.refl b w).setCell 4 _⟩
      rw [HW.out]
      simp [World.setCell, Array.getElem?_modify, HH.out, DCells]
    · have hm : mayS true left torn = ((false, !torn), (left, true)) := by simp [mayS, h0]
      rw [hm]
      have d0 : decide (0 < left) = false := decide_eq_false h0
      clear h0 hm hf
      go_enter Try.func22, Try.ntmps22
      go_wp2_with (fail)
      go_ret2
      refine ⟨rfl, ?_, (But.refl b w).setCell 5 _⟩
      simp [World.setCell, Array.getElem?_modify, HH.out, DCells]
theorem fail_calls (b : Nat) (room : Int) (dir safe : Value) (failing : Bool) (left : Int) (torn : Bool) (n : Int) (w : World)
    (hh : w.heap[b]? = some (DCells room dir safe failing left torn)) :
    Calls Try.prog 14 #[.pointer (some ⟨b, 0, none⟩), .int .i64 n] w fun e w' => e = .returned (.tuple #[]) ∧
      w'.heap[b]? = some (DCells room dir safe true n false) ∧ But b w w' := by
  have c3 : w.cell? ⟨b, 3, none⟩ = some (.bool failing) := by simp [World.cell?, hh, DCells]
  have c4 : w.cell? ⟨b, 4, none⟩ = some (.int .i64 left) := by simp [World.cell?, hh, DCells]
  have c5 : w.cell? ⟨b, 5, none⟩ = some (.bool torn) := by simp [World.cell?, hh, DCells]
  have f3 : w.frozen? ⟨b, 3, none⟩ = false := by simp [World.frozen?, hh, DCells]
  have f4 : w.frozen? ⟨b, 4, none⟩ = false := by simp [World.frozen?, hh, DCells]
  have f5 : w.frozen? ⟨b, 5, none⟩ = false := by simp [World.frozen?, hh, DCells]
  have HH := Aside0.mk hh
  clear hh
  go_enter Try.func14, Try.ntmps14
  go_wp2_with (fail)
  go_end0
  refine ⟨rfl, ?_, (((But.refl b w).setCell 3 _).setCell 4 _).setCell 5 _⟩
  simp [World.setCell, Array.getElem?_modify, HH.out, DCells]
attribute [local go_sem] run_makeMap
theorem new_calls (n : Int) (w : World) (hn : ¬ n < 0) :
    Calls Try.prog 8 #[.int .i64 n] w fun e w' => e = .returned (.tuple #[.pointer (some ⟨w.heap.size + 2, 0, none⟩), .int .i64 0]) ∧
      w' = ((w.alloc (.map #[] 0)).alloc (.map #[] 0)).alloc (DCells n (.map (some w.heap.size)) (.map (some (w.heap.size + 1))) false 0 false) := by
  go_enter Try.func8, Try.ntmps8
  go_wp2_with (fail)
  go_ret2
  exact ⟨rfl, rfl⟩
theorem new_neg (n : Int) (w : World) (hn : n < 0) :
    Calls Try.prog 8 #[.int .i64 n] w fun e w' => e = .returned (.tuple #[.pointer none, .int .i64 2]) ∧ w' = w := by
  go_enter Try.func8, Try.ntmps8
  go_wp2_with (fail)
  go_ret2
  exact ⟨rfl, rfl⟩
/-- A file's own block: the slice of its bytes, how many are safe. -/
def FCells (T : Nat) (a : Option Addr) (len cap : Nat) (safe : Int) : Obj := .cells #[.slice a len cap, .int .i64 safe] T (0, 0)
theorem sync1 (T b : Nat) (a : Option Addr) (len cap : Nat) (safe : Int) (w : World) (hh : w.heap[b]? = some (FCells T a len cap safe)) :
    Calls Try.prog 30 #[.pointer (some ⟨b, 0, none⟩)] w fun e w' => e = .returned (.int .i64 0) ∧ w'.heap[b]? = some (FCells T a len cap len) ∧ But b w w' := by
  have c0 : w.cell? ⟨b, 0, none⟩ = some (.slice a len cap) := by simp [World.cell?, hh, FCells]
  have c1 : w.cell? ⟨b, 1, none⟩ = some (.int .i64 safe) := by simp [World.cell?, hh, FCells]
  have f1 : w.frozen? ⟨b, 1, none⟩ = false := by simp [World.frozen?, hh, FCells]
  have HH := Aside0.mk hh
  clear hh
  go_enter Try.func30, Try.ntmps30
  go_wp2_with (fail)
  go_ret
  refine ⟨rfl, ?_, (But.refl b w).setCell 1 _⟩
  simp [World.setCell, Array.getElem?_modify, HH.out, FCells]
end Go.Proofs.Ytcaipccgphblnaa.Dk
