/- disk: DiskRoom answers true. -/
import Derived.Test.YtcaipccgphblnaaFirst
namespace Go.Proofs.Ytcaipccgphblnaa.Dk
open Go.RowKit Go.WideMaps Go.Proofs.YtcaipccgphblnaaW.PrintWords
set_option linter.unusedSimpArgs false
theorem u64_pos (r : Int) : 0 ≤ IntKind.u64.wrap r ∧ IntKind.u64.wrap r < 18446744073709551616 := by
  simp only [IntKind.wrap, IntKind.bits, IntKind.signed]
  simp
  omega
theorem mod_small (r : Int) (k : Int) (h0 : 0 < k) (hk : k ≤ 1000000) : ∃ N : Nat, wrap64 ((IntKind.u64.wrap r).tmod k) = (N : Int) ∧ (N : Int) < k := by
  have h := u64_pos r
  rw [Int.tmod_eq_emod_of_nonneg h.1]
  have h1 := Int.emod_nonneg (IntKind.u64.wrap r) (show k ≠ 0 by omega)
  have h2 := Int.emod_lt_of_pos (IntKind.u64.wrap r) h0
  refine ⟨((IntKind.u64.wrap r) % k).toNat, ?_, by omega⟩
  unfold wrap64
  omega
/-- The draws of DiskRoom. -/
theorem room_draws (r a c : Int) : ∃ n x y : Nat, 1 ≤ n ∧ n ≤ 500 ∧ x ≤ n ∧ y < 600 ∧ wrap64 (1 + wrap64 ((IntKind.u64.wrap r).tmod 500)) = (n : Int) ∧ IntKind.u64.wrap (wrap64 ((n : Int) + 1)) = ((n + 1 : Nat) : Int) ∧ wrap64 ((IntKind.u64.wrap a).tmod ((n + 1 : Nat) : Int)) = (x : Int) ∧ wrap64 ((IntKind.u64.wrap c).tmod 600) = (y : Int) := by
  obtain ⟨m, hm, hm'⟩ := mod_small r 500 (by omega) (by omega)
  obtain ⟨x, hx, hx'⟩ := mod_small a ((m + 1 + 1 : Nat) : Int) (by omega) (by omega)
  obtain ⟨y, hy, hy'⟩ := mod_small c 600 (by omega) (by omega)
  refine ⟨m + 1, x, y, by omega, by omega, by omega, by omega, ?_, ?_, hx, hy⟩
  · rw [hm]; unfold wrap64; omega
  · simp only [IntKind.wrap, IntKind.bits, IntKind.signed]
    unfold wrap64
    simp
    omega
def sA (n x : Nat) : St := ⟨n, [⟨List.replicate x 0, 0⟩], [(f1, 0)], [], false, 0, false⟩
def sB (n x y : Nat) : St := ⟨n, [⟨List.replicate x 0, 0⟩, ⟨List.replicate y 0, 0⟩], [(f1, 0), (g1, 1)], [], false, 0, false⟩
theorem newSt_free (n : Int) : (newSt n).may.free = n := by simp [newSt, St.may, St.free, St.gone, sumL]
theorem wA {n x : Nat} (h : x ≤ n) : (newSt n).write f1 (List.replicate x 0) = (0, sA n x) := by
  have hf := newSt_free n
  unfold St.write
  rw [if_neg (by simp [St.ok, mayS, newSt]), if_neg (by simp), if_neg (by rw [hf]; simp; omega)]
  simp [St.lay, St.may, newSt, find, put, del, ins, sA, mayS]
theorem sA_free (n x : Nat) : (sA n x).free = n - x := by simp [sA, St.free, St.gone, sumL, St.len, St.file]
theorem wB {n x y : Nat} (h : y ≤ n - x) (hx : x ≤ n) : (sA n x).write g1 (List.replicate y 0) = (0, sB n x y) := by
  have hf : (sA n x).may.free = n - x := sA_free n x
  unfold St.write
  rw [if_neg (by simp [St.ok, mayS, sA]), if_neg (by simp), if_neg (by rw [hf]; simp; omega)]
  have hb : bytesBefore g1 f1 = false := by decide
  simp [St.lay, St.may, sA, find, put, del, ins, sB, mayS, hb]
theorem wB' {n x y : Nat} (h : ¬ y ≤ n - x) (hx : x ≤ n) : (sA n x).write g1 (List.replicate y 0) = (170, sA n x) := by
  have hf : (sA n x).may.free = n - x := sA_free n x
  unfold St.write
  rw [if_neg (by simp [St.ok, mayS, sA]), if_neg (by simp), if_pos (by rw [hf]; simp; omega)]
  simp [St.may, sA, mayS]
/-- What is left of room, on the way. -/
structure Ends (s : St) (W : Int) (x : Nat) : Prop where
  few : s.dir.length ≤ 1000000000
  a : s.flush.2.free = W
  b : (s.flush.2.remove f1).2.free = W
  c : (s.flush.2.remove f1).2.flush.2.free = W + x
  few1 : s.flush.2.dir.length ≤ 1000000000
  few2 : (s.flush.2.remove f1).2.dir.length ≤ 1000000000
  few3 : (s.flush.2.remove f1).2.flush.2.dir.length ≤ 1000000000
theorem ends_A (n x : Nat) : Ends (sA n x) (n - x) x := by
  refine ⟨by simp [sA], ?_, ?_, ?_, ?_, ?_, ?_⟩ <;> simp [sA, St.flush, St.ok, mayS, St.may, St.remove, find, del, St.free, St.gone, sumL, St.len, St.file]
theorem ends_B (n x y : Nat) : Ends (sB n x y) (n - x - y) x := by
  refine ⟨by simp [sB], ?_, ?_, ?_, ?_, ?_, ?_⟩ <;> simp [sB, St.flush, St.ok, mayS, St.may, St.remove, find, del, St.free, St.gone, sumL, St.len, St.file] <;> omega
set_option maxRecDepth 100000 in
set_option maxHeartbeats 1000000 in
theorem room_fits (r a c : Int) (w : World) (n x y : Nat) (h1 : 1 ≤ n) (h2 : n ≤ 500) (h3 : x ≤ n) (h4 : y < 600) (e1 : wrap64 (1 + wrap64 ((IntKind.u64.wrap r).tmod 500)) = (n : Int)) (e2 : IntKind.u64.wrap (wrap64 ((n : Int) + 1)) = ((n + 1 : Nat) : Int)) (e3 : wrap64 ((IntKind.u64.wrap a).tmod ((n + 1 : Nat) : Int)) = (x : Int)) (e4 : wrap64 ((IntKind.u64.wrap c).tmod 600) = (y : Int)) (hy : y ≤ n - x) :
    Calls Try.prog 3 #[.int .i64 r, .int .i64 a, .int .i64 c] w fun e w' => e = .returned (.bool true) ∧ Below w.heap.size w w' := by
  have hM0 : ¬ ((n + 1 : Nat) : Int) = 0 := by omega
  obtain ⟨M, hM⟩ : ∃ M, n + 1 = M := ⟨_, rfl⟩
  rw [hM] at e2 e3 hM0
  have m1 := make_bytes x (by omega)
  have m2 := make_bytes y (by omega)
  have HW1 := Aside0.mk (wA h3)
  have HW2 := Aside0.mk (wB hy h3)
  have q0 : (0 : Int) ≤ n := by omega
  have q1 : (n : Int) ≤ 500 := by omega
  have q2 : (x : Int) ≤ n := by omega
  have q3 : (0 : Int) ≤ x := by omega
  have q4 : (y : Int) ≤ n - x := by omega
  have q5 : (0 : Int) ≤ y := by omega
  have HF := Aside0.mk (sA_free n x)
  obtain ⟨D, hD⟩ : ∃ D : Int, (n : Int) - x = D := ⟨_, rfl⟩
  have hnx : wrap64 ((n : Int) - x) = D := by unfold wrap64; omega
  have d1 : decide ((y : Int) ≤ D) = true := by simp; omega
  obtain ⟨W, hW⟩ : ∃ W : Int, (n : Int) - x - y = W := ⟨_, rfl⟩
  obtain ⟨V, hV⟩ : ∃ V : Int, W + x = V := ⟨_, rfl⟩
  have hwx : wrap64 (W + x) = V := by unfold wrap64; omega
  have HE := Aside0.mk (show Ends (sB n x y) W x by rw [← hW]; exact ends_B n x y)
  have HV := Aside0.mk hV
  have HD := Aside0.mk hD
  have HN := Aside0.mk (show n ≤ 500 ∧ x ≤ n ∧ y ≤ n - x from ⟨h2, h3, hy⟩)
  clear hM h1 h2 h3 h4 hD hW hV hy q0 q1 q2 q3 q4 q5
  go_enter Try.func3, Try.ntmps3
  go_wp2_with (fail)
  refine (first_calls w).mono ?_
  rintro e w1 ⟨rfl, h1⟩
  have H1 := Aside0.mk h1
  clear h1
  go_wp2_with (fail)
  refine (new_held (w0 := w) n (by have := HN.out; omega) H1.out).mono ?_
  rintro e w2 ⟨rfl, h⟩
  have H2 := Aside0.mk h
  clear h
  go_wp2_with (fail)
  refine (write_held (H2.out.alloc _) ⟨#[102]⟩ (nm_le _ (by decide)) _ (List.replicate x 0) (src_zero w2 x (by have := HN.out; unfold maxLen; omega)) (by have := HN.out; simp; omega) (fun i hi => by have := len_le_room H2.out.wf hi; have e : (newSt (n : Int)).room = n := rfl; have := HN.out; simp only [List.length_replicate]; omega) (by simp [newSt])).mono ?_
  rintro e w3 ⟨rfl, h⟩
  rw [show (newSt (n : Int)).write (⟨#[102]⟩ : ByteArray).data.toList (List.replicate x 0) = (0, sA n x) from HW1.out] at h ⊢
  have H3 := Aside0.mk h
  clear h
  go_wp2_with (fail)
  refine (free_held H3.out (by simp [sA])).mono ?_
  rintro e w4 ⟨rfl, h⟩
  rw [HF.out, HD.out]
  have H4 := Aside0.mk h
  clear h
  go_wp2_with (fail)
  refine (write_held (H4.out.alloc _) ⟨#[103]⟩ (nm_le _ (by decide)) _ (List.replicate y 0) (src_zero w4 y (by have := HN.out; unfold maxLen; omega)) (by have := HN.out; simp; omega) (fun i hi => by have := len_le_room H4.out.wf hi; have e : (sA n x).room = n := rfl; have := HN.out; simp only [List.length_replicate]; omega) (by simp [sA])).mono ?_
  rintro e w5 ⟨rfl, h⟩
  rw [show (sA n x).write (⟨#[103]⟩ : ByteArray).data.toList (List.replicate y 0) = (0, sB n x y) from HW2.out] at h ⊢
  have H5 := Aside0.mk h
  clear h
  go_wp2_with (fail)
  refine (flush_held H5.out).mono ?_
  rintro e w6 ⟨rfl, h⟩
  have H6 := Aside0.mk h
  clear h
  go_wp2_with (fail)
  refine (free_held H6.out HE.out.few1).mono ?_
  rintro e w7 ⟨rfl, h⟩
  rw [HE.out.a]
  have H7 := Aside0.mk h
  clear h
  go_wp2_with (fail)
  refine (remove_held H7.out ⟨#[102]⟩ (nm_le _ (by decide))).mono ?_
  rintro e w8 ⟨rfl, h⟩
  have H8 := Aside0.mk h
  clear h
  go_wp2_with (fail)
  refine (free_held H8.out HE.out.few2).mono ?_
  rintro e w9 ⟨rfl, h⟩
  rw [show ((sB n x y).flush.2.remove (⟨#[102]⟩ : ByteArray).data.toList).2.free = W from HE.out.b]
  have H9 := Aside0.mk h
  clear h
  go_wp2_with (fail)
  refine (flush_held H9.out).mono ?_
  rintro e w10 ⟨rfl, h⟩
  have H10 := Aside0.mk h
  clear h
  go_wp2_with (fail)
  refine (free_held H10.out HE.out.few3).mono ?_
  rintro e w11 ⟨rfl, h⟩
  rw [show ((sB n x y).flush.2.remove (⟨#[102]⟩ : ByteArray).data.toList).2.flush.2.free = W + x from HE.out.c, HV.out]
  have H11 := Aside0.mk h
  clear h
  go_wp2_with (fail)
  go_ret
  exact ⟨rfl, H11.out.below⟩
set_option maxRecDepth 100000 in
set_option maxHeartbeats 1000000 in
theorem room_full (r a c : Int) (w : World) (n x y : Nat) (h1 : 1 ≤ n) (h2 : n ≤ 500) (h3 : x ≤ n) (h4 : y < 600) (e1 : wrap64 (1 + wrap64 ((IntKind.u64.wrap r).tmod 500)) = (n : Int)) (e2 : IntKind.u64.wrap (wrap64 ((n : Int) + 1)) = ((n + 1 : Nat) : Int)) (e3 : wrap64 ((IntKind.u64.wrap a).tmod ((n + 1 : Nat) : Int)) = (x : Int)) (e4 : wrap64 ((IntKind.u64.wrap c).tmod 600) = (y : Int)) (hy : ¬ y ≤ n - x) :
    Calls Try.prog 3 #[.int .i64 r, .int .i64 a, .int .i64 c] w fun e w' => e = .returned (.bool true) ∧ Below w.heap.size w w' := by
  have hM0 : ¬ ((n + 1 : Nat) : Int) = 0 := by omega
  obtain ⟨M, hM⟩ : ∃ M, n + 1 = M := ⟨_, rfl⟩
  rw [hM] at e2 e3 hM0
  have m1 := make_bytes x (by omega)
  have m2 := make_bytes y (by omega)
  have HW1 := Aside0.mk (wA h3)
  have HW2 := Aside0.mk (wB' hy h3)
  have q0 : (0 : Int) ≤ n := by omega
  have q1 : (n : Int) ≤ 500 := by omega
  have q2 : (x : Int) ≤ n := by omega
  have q3 : (0 : Int) ≤ x := by omega
  have q4 : ¬ (y : Int) ≤ n - x := by omega
  have q5 : (0 : Int) ≤ y := by omega
  have HF := Aside0.mk (sA_free n x)
  obtain ⟨D, hD⟩ : ∃ D : Int, (n : Int) - x = D := ⟨_, rfl⟩
  have hnx : wrap64 ((n : Int) - x) = D := by unfold wrap64; omega
  have d1 : decide ((y : Int) ≤ D) = false := by simp; omega
  obtain ⟨W, hW⟩ : ∃ W : Int, (n : Int) - x = W := ⟨_, rfl⟩
  obtain ⟨V, hV⟩ : ∃ V : Int, W + x = V := ⟨_, rfl⟩
  have hwx : wrap64 (W + x) = V := by unfold wrap64; omega
  have HE := Aside0.mk (show Ends (sA n x) W x by rw [← hW]; exact ends_A n x)
  have HV := Aside0.mk hV
  have HD := Aside0.mk hD
  have HN := Aside0.mk (show n ≤ 500 ∧ x ≤ n ∧ y < 600 from ⟨h2, h3, h4⟩)
  clear hM h1 h2 h3 h4 hD hW hV hy q0 q1 q2 q3 q4 q5
  go_enter Try.func3, Try.ntmps3
  go_wp2_with (fail)
  refine (first_calls w).mono ?_
  rintro e w1 ⟨rfl, h1⟩
  have H1 := Aside0.mk h1
  clear h1
  go_wp2_with (fail)
  refine (new_held (w0 := w) n (by have := HN.out; omega) H1.out).mono ?_
  rintro e w2 ⟨rfl, h⟩
  have H2 := Aside0.mk h
  clear h
  go_wp2_with (fail)
  refine (write_held (H2.out.alloc _) ⟨#[102]⟩ (nm_le _ (by decide)) _ (List.replicate x 0) (src_zero w2 x (by have := HN.out; unfold maxLen; omega)) (by have := HN.out; simp; omega) (fun i hi => by have := len_le_room H2.out.wf hi; have e : (newSt (n : Int)).room = n := rfl; have := HN.out; simp only [List.length_replicate]; omega) (by simp [newSt])).mono ?_
  rintro e w3 ⟨rfl, h⟩
  rw [show (newSt (n : Int)).write (⟨#[102]⟩ : ByteArray).data.toList (List.replicate x 0) = (0, sA n x) from HW1.out] at h ⊢
  have H3 := Aside0.mk h
  clear h
  go_wp2_with (fail)
  refine (free_held H3.out (by simp [sA])).mono ?_
  rintro e w4 ⟨rfl, h⟩
  rw [HF.out, HD.out]
  have H4 := Aside0.mk h
  clear h
  go_wp2_with (fail)
  refine (write_held (H4.out.alloc _) ⟨#[103]⟩ (nm_le _ (by decide)) _ (List.replicate y 0) (src_zero w4 y (by have := HN.out; unfold maxLen; omega)) (by have := HN.out; simp; omega) (fun i hi => by have := len_le_room H4.out.wf hi; have e : (sA n x).room = n := rfl; have := HN.out; simp only [List.length_replicate]; omega) (by simp [sA])).mono ?_
  rintro e w5 ⟨rfl, h⟩
  rw [show (sA n x).write (⟨#[103]⟩ : ByteArray).data.toList (List.replicate y 0) = (170, sA n x) from HW2.out] at h ⊢
  have H5 := Aside0.mk h
  clear h
  go_wp2_with (fail)
  refine (flush_held H5.out).mono ?_
  rintro e w6 ⟨rfl, h⟩
  have H6 := Aside0.mk h
  clear h
  go_wp2_with (fail)
  refine (free_held H6.out HE.out.few1).mono ?_
  rintro e w7 ⟨rfl, h⟩
  rw [HE.out.a]
  have H7 := Aside0.mk h
  clear h
  go_wp2_with (fail)
  refine (remove_held H7.out ⟨#[102]⟩ (nm_le _ (by decide))).mono ?_
  rintro e w8 ⟨rfl, h⟩
  have H8 := Aside0.mk h
  clear h
  go_wp2_with (fail)
  refine (free_held H8.out HE.out.few2).mono ?_
  rintro e w9 ⟨rfl, h⟩
  rw [show ((sA n x).flush.2.remove (⟨#[102]⟩ : ByteArray).data.toList).2.free = W from HE.out.b]
  have H9 := Aside0.mk h
  clear h
  go_wp2_with (fail)
  refine (flush_held H9.out).mono ?_
  rintro e w10 ⟨rfl, h⟩
  have H10 := Aside0.mk h
  clear h
  go_wp2_with (fail)
  refine (free_held H10.out HE.out.few3).mono ?_
  rintro e w11 ⟨rfl, h⟩
  rw [show ((sA n x).flush.2.remove (⟨#[102]⟩ : ByteArray).data.toList).2.flush.2.free = W + x from HE.out.c, HV.out]
  have H11 := Aside0.mk h
  clear h
  go_wp2_with (fail)
  go_ret
  exact ⟨rfl, H11.out.below⟩
theorem room_calls (r a c : Int) (w : World) : Calls Try.prog 3 #[.int .i64 r, .int .i64 a, .int .i64 c] w fun e w' => e = .returned (.bool true) ∧ Below w.heap.size w w' := by
  obtain ⟨n, x, y, h1, h2, h3, h4, e1, e2, e3, e4⟩ := room_draws r a c
  by_cases hy : y ≤ n - x
  · exact room_fits r a c w n x y h1 h2 h3 h4 e1 e2 e3 e4 hy
  · exact room_full r a c w n x y h1 h2 h3 h4 e1 e2 e3 e4 hy
end Go.Proofs.Ytcaipccgphblnaa.Dk
