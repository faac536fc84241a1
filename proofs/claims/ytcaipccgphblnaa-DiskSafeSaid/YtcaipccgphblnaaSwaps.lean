/- disk: DiskSwaps answers true. -/
import Derived.Test.YtcaipccgphblnaaRoom
import Derived.Test.YtcaipccgphblnaaSwapsLaw
import Derived.BigQuiet
import Derived.Deep.QuietTactic
namespace Go.Proofs.Ytcaipccgphblnaa.Dk
open Go.RowKit Go.WideMaps Go.Proofs.YtcaipccgphblnaaW.PrintWords
set_option linter.unusedSimpArgs false
theorem below_drewN {B : Nat} {a w : World} (h : Below B a w) (n : Nat) : Below B a (w.drewN n) := ⟨h.os, h.tape, h.output, h.size, h.block⟩
theorem min_nat (k m : Nat) : (if (m : Int) < (k : Int) then (m : Int) else (k : Int)) = ((min k m : Nat) : Int) := by
  split <;> omega
set_option maxRecDepth 100000 in
set_option maxHeartbeats 2000000 in
theorem swaps_calls (va vb : Value) (xs ys : Bs) (p q : Int) (w : World) (ha : Src w va xs) (hb : Src w vb ys) :
    Calls Try.prog 4 #[va, vb, .agg #[.int .i64 p, .int .i64 q]] w fun e w' => e = .returned (.bool true) ∧ Below w.heap.size w w' := by
  obtain ⟨aa, ca, rfl⟩ := ha.form
  obtain ⟨ab, cb, rfl⟩ := hb.form
  obtain ⟨la1, la2⟩ := ha.cap
  obtain ⟨lb1, lb2⟩ := hb.cap
  have la3 : ca ≤ 9223372036854775807 := la2
  have lb3 : cb ≤ 9223372036854775807 := lb2
  clear la2 lb2
  have HA := Aside0.mk ha
  have HB := Aside0.mk hb
  have EX := Aside0.mk (min_nat xs.length 300)
  have EY := Aside0.mk (min_nat ys.length 300)
  obtain ⟨N, hN, hN6⟩ := mod_small p 6 (by omega) (by omega)
  have HN6 := Aside0.mk hN6
  have HN := Aside0.mk hN
  clear ha hb hN hN6
  go_enter Try.func4, Try.ntmps4
  go_wp2_with (fail)
  refine (first_calls _).mono ?_
  rintro e w1 ⟨rfl, h1⟩
  have H1 := Aside0.mk h1
  clear h1
  go_wp2_with (fail)
  go_quiet (fail)
  obtain ⟨W1, hW1⟩ : ∃ W1, w1.drewN nq = W1 := ⟨_, rfl⟩
  have hB1 : Below w.heap.size w W1 := by rw [← hW1]; exact below_drewN (((Below.refl _ _).alloc (Nat.le_refl _) _).trans (H1.out.mono (by simp))) nq
  have hbox : ∀ j, W1.cell? ⟨w.heap.size, j, none⟩ = (#[Value.int .i64 p, .int .i64 q] : Array Value)[j]? := fun j => by
    have h2 := below_drewN H1.out nq
    rw [hW1] at h2
    rw [World.cell?_of_block (w := w.alloc (.cells #[.int .i64 p, .int .i64 q] 34)) (h2.block _ (by simp))]
    exact cell_of_row _ w.heap.size j _ 34 (0, 0) (heap_alloc_new w _)
  have hsz : w.heap.size < W1.heap.size := by
    have h2 := H1.out.size
    rw [← hW1]; show w.heap.size < w1.heap.size; simp at h2; omega
  rw [hW1]
  have eX := EX.out
  have eY := EY.out
  simp only [show ((300 : Nat) : Int) = 300 from rfl] at eX eY
  simp only [eX, eY, Int.toNat_natCast]
  have lx : (xs.take 300).length = min xs.length 300 := by rw [List.length_take, Nat.min_comm]
  have ly : (ys.take 300).length = min ys.length 300 := by rw [List.length_take, Nat.min_comm]
  obtain ⟨x, hx⟩ : ∃ x, xs.take 300 = x := ⟨_, rfl⟩
  obtain ⟨y, hy⟩ : ∃ y, ys.take 300 = y := ⟨_, rfl⟩
  rw [hx] at lx
  rw [hy] at ly
  have hX1 : Src W1 (.slice aa x.length ca) x := by
    have := (HA.out.below (hB1.mono (Nat.le_refl _))).take (min xs.length 300) (Nat.min_le_left _ _)
    have e : xs.take (min xs.length 300) = x := by rw [← hx, Nat.min_comm, List.take_eq_take_iff]; omega
    rw [e, ← lx] at this; exact this
  have hY1 : Src W1 (.slice ab y.length cb) y := by
    have := (HB.out.below (hB1.mono (Nat.le_refl _))).take (min ys.length 300) (Nat.min_le_left _ _)
    have e : ys.take (min ys.length 300) = y := by rw [← hy, Nat.min_comm, List.take_eq_take_iff]; omega
    rw [e, ← ly] at this; exact this
  rw [← lx, ← ly]
  have HX := Aside0.mk hX1
  have HY := Aside0.mk hY1
  have HBOX := Aside0.mk hbox
  have HB1 := Aside0.mk hB1
  have HSZ := Aside0.mk hsz
  have LX := Aside0.mk (show x.length ≤ 300 by omega)
  have LY := Aside0.mk (show y.length ≤ 300 by omega)
  clear hX1 hY1 hbox hB1 hsz lx ly hx hy eX eY la1 la3 lb1 lb3 EX EY H1 hW1 HA HB
  go_wp2_with (fail)
  refine (new_held (w0 := W1) 1000 (by omega) (Below.refl _ _)).mono ?_
  rintro e w2 ⟨rfl, h⟩
  have H2 := Aside0.mk h
  clear h
  obtain ⟨b, hb⟩ : ∃ b, W1.heap.size + 2 = b := ⟨_, rfl⟩
  rw [hb]
  rw [hb] at H2
  clear hb
  go_wp2_with (fail)
  refine (write_held H2.out ⟨#[102]⟩ (nm_le _ (by decide)) _ x (HX.out.below H2.out.below) (by have := LX.out; omega) (fun i hi => by have := len_le_room H2.out.wf hi; have e : (newSt (1000 : Int)).room = 1000 := rfl; have := LX.out; omega) (by simp [newSt])).mono ?_
  rintro e w3 ⟨rfl, h⟩
  have H3 : Aside0 (Held W1 (a1 x) b w3) := Aside0.mk h
  clear h
  go_wp2_with (fail)
  refine (sync_held H3.out ⟨#[102]⟩ (nm_le _ (by decide))).mono ?_
  rintro e w4 ⟨rfl, h⟩
  have H4 : Aside0 (Held W1 (a2 x) b w4) := Aside0.mk h
  clear h
  go_wp2_with (fail)
  refine (flush_held H4.out).mono ?_
  rintro e w5 ⟨rfl, h⟩
  have H5 : Aside0 (Held W1 (a3 x) b w5) := Aside0.mk h
  have c0 : w5.cell? ⟨w.heap.size, 0, none⟩ = some (.int .i64 p) := (h.below.cell (p := ⟨w.heap.size, 0, none⟩) HSZ.out).trans (HBOX.out 0)
  have hN := HN.out
  clear h
  go_wp2_with (fail)
  refine (fail_held H5.out N (by have := HN6.out; omega)).mono ?_
  rintro e w6 ⟨rfl, h⟩
  have H6 : Aside0 (Held W1 (a4 x N) b w6) := Aside0.mk h
  clear h
  go_wp2_with (fail)
  refine (write_held H6.out ⟨#[110, 101, 119]⟩ (nm_le _ (by decide)) _ y (HY.out.below H6.out.below) (by have := LY.out; omega) (fun i hi => by have := len_le_room H6.out.wf hi; have e := (a4_few x N LX.out).2; have := LY.out; omega) (a4_few x N LX.out).1).mono ?_
  rintro e w7 ⟨rfl, h⟩
  have H7 : Aside0 (Held W1 (a5 x y N) b w7) := Aside0.mk h
  clear h
  go_wp2_with (fail)
  refine (sync_held H7.out ⟨#[110, 101, 119]⟩ (nm_le _ (by decide))).mono ?_
  rintro e w8 ⟨rfl, h⟩
  have H8 : Aside0 (Held W1 (a6 x y N) b w8) := Aside0.mk h
  clear h
  go_wp2_with (fail)
  refine (rename_held H8.out ⟨#[110, 101, 119]⟩ ⟨#[102]⟩ (nm_le _ (by decide)) (nm_le _ (by decide)) (a6_few x y N LX.out LY.out)).mono ?_
  rintro e w9 ⟨rfl, h⟩
  have H9 : Aside0 (Held W1 (a7 x y N) b w9) := Aside0.mk h
  clear h
  go_wp2_with (fail)
  refine (flush_held H9.out).mono ?_
  rintro e w10 ⟨rfl, h⟩
  have H10 : Aside0 (Held W1 (a8 x y N) b w10) := Aside0.mk h
  have c1 : w10.cell? ⟨w.heap.size, 1, none⟩ = some (.int .i64 q) := (h.below.cell (p := ⟨w.heap.size, 1, none⟩) HSZ.out).trans (HBOX.out 1)
  clear h
  go_wp2_with (fail)
  refine (crash_held H10.out q).mono ?_
  rintro e w11 ⟨rfl, h⟩
  have H11 : Aside0 (Held W1 (a9 x y N q) b w11) := Aside0.mk h
  clear h c0 c1
  by_cases hN4 : 4 ≤ N
  · obtain ⟨hf, hbb⟩ := swaps_new x y N q LX.out LY.out hN4
    have d1 : decide ((4 : Int) ≤ (N : Int)) = true := by simp; omega
    have HF := Aside0.mk hf
    have HBB := Aside0.mk hbb
    clear hf hbb hN4
    go_wp2_with (fail)
    refine (read_held H11.out ⟨#[102]⟩ (nm_le _ (by decide)) HF.out (by unfold St.len; rw [HBB.out]; have := LY.out; omega)).mono ?_
    rintro e w12 ⟨v, rfl, hr, hv, h⟩
    rw [HBB.out] at hr
    have k1 := src_string hr.src
    have k2 := src_string (HY.out.below h.below)
    have HW := Aside0.mk h.below
    clear h hr hv
    go_wp2_with (fail)
    go_ret
    refine ⟨?_, HB1.out.trans (HW.out.mono HB1.out.size)⟩
    trace_state
    simp
  · obtain ⟨hf, hbb⟩ := swaps_old x y N q LX.out LY.out (by omega)
    have d1 : decide ((4 : Int) ≤ (N : Int)) = false := by simp; omega
    have HF := Aside0.mk hf
    have HBB := Aside0.mk hbb
    clear hf hbb hN4
    go_wp2_with (fail)
    refine (read_held H11.out ⟨#[102]⟩ (nm_le _ (by decide)) HF.out (by unfold St.len; rw [HBB.out]; have := LX.out; omega)).mono ?_
    rintro e w12 ⟨v, rfl, hr, hv, h⟩
    rw [HBB.out] at hr
    have k1 := src_string hr.src
    have k2 := src_string (HX.out.below h.below)
    have HW := Aside0.mk h.below
    clear h hr hv
    go_wp2_with (fail)
    go_ret
    refine ⟨?_, HB1.out.trans (HW.out.mono HB1.out.size)⟩
    simp
end Go.Proofs.Ytcaipccgphblnaa.Dk
