/- disk: 'first' answers true. -/
import Derived.Test.YtcaipccgphblnaaHeld
import Derived.RegionTactic
import Derived.Lib.SlBytesConst
import Derived.Lib.BufferRead
namespace Go.Proofs.Ytcaipccgphblnaa.Dk
open Go.RowKit Go.WideMaps Go.Proofs.YtcaipccgphblnaaW.PrintWords
set_option linter.unusedSimpArgs false
abbrev f1 : Bs := [102]
abbrev g1 : Bs := [103]
def s1 : St := ((newSt 10).write f1 [97, 98]).2
def s2 : St := (s1.sync f1).2
def s3 : St := s2.flush.2
def s4 : St := (s3.write f1 [99, 100]).2
def s5 : St := s4.crash 1
/-- 'string(b)'. -/
theorem src_string {w : World} {v : Value} {ys : Bs} (h : Src w v ys) : (convert 29 9 v).run Try.prog w = .ok (.string ⟨ys.toArray⟩) w := by
  rcases h with ⟨rfl, rfl⟩ | ⟨a, cap, rfl, _, hc⟩
  · exact Lib.run_convert_nil_bytes w 29 9 5 0 Try.underlying29 Try.underlying5 Try.underlying9
  · exact run_convert_bytes_back w 29 9 5 a cap ys Try.underlying29 Try.underlying5 Try.underlying9 (fun j hj => hc j _ (by simp [hj]))
def zeroRow (k : Nat) : Array Value := Array.replicate k (.int .u8 0)
theorem madeCells_one (v : Value) (k : Nat) : madeCells #[v] k = Array.replicate k v := by
  unfold madeCells
  apply Array.ext
  · simp
  · intro i h1 h2
    simp [Nat.mod_one]
/-- 'make([]byte, k)'. -/
theorem make_bytes (k : Nat) (hk : k ≤ 1000000) (w : World) : (Instr.makeSlice 29 (.int .i64 k) (.int .i64 k)).run Try.prog w = .ok (.slice (some ⟨w.heap.size, 0, none⟩) k k) (w.alloc (.cells (zeroRow k) 5)) := by
  obtain ⟨i0, hi, hz0, hz1, hz2⟩ := info_parts info5
  have h := run_makeSlice (P := Try.prog) w 29 5 i0 (.int .u8 0) Try.underlying29 hi hz0 .i64 .i64 k k (by omega) (Int.le_refl _) (by rw [hz1]; simp; omega) (by rw [hz2]; omega) (by omega)
  rw [h, Int.toNat_natCast, hz1, Nat.mul_one]
  show Result.ok _ (w.alloc (.cells (madeCells #[.int .u8 0] k) 5)) = _
  rw [madeCells_one]; rfl
theorem src_zero (w : World) (k : Nat) (hk : k ≤ maxLen) : Src (w.alloc (.cells (zeroRow k) 5)) (.slice (some ⟨w.heap.size, 0, none⟩) k k) (List.replicate k 0) := src_made w k hk
theorem nm_le (a : Array UInt8) (h : a.size ≤ 1000) : (ByteArray.mk a).size ≤ maxLen := by show a.size ≤ maxLen; unfold maxLen; omega
theorem src_pair (w : World) (a b : UInt8) (p : Nat × Nat) : Src (w.alloc (.cells #[bv a, bv b] 5 p)) (.slice (some ⟨w.heap.size, 0, none⟩) 2 2) [a, b] := by
  refine .inr ⟨⟨w.heap.size, 0, none⟩, 2, by simp, by simp [maxLen], fun j c hj => ?_⟩
  have hadd : (⟨w.heap.size, 0, none⟩ : Addr).add j = ⟨w.heap.size, j, none⟩ := by unfold Addr.add; split <;> simp_all
  rw [hadd, cell_of_row _ w.heap.size j _ 5 p (heap_alloc_new w _)]
  match j, hj with
  | 0, hj => simp at hj; subst hj; rfl
  | 1, hj => simp at hj; subst hj; rfl
  | j + 2, hj => simp at hj
set_option maxRecDepth 100000 in
set_option maxHeartbeats 1000000 in
theorem first_calls (w : World) : Calls Try.prog 7 #[] w fun e w' => e = .returned (.bool true) ∧ Below w.heap.size w w' := by
  have kc := fun (w : World) (C : Array Value) (n c : Nat) => Lib.run_convert_bytes_const (P := Try.prog) w 29 5 C n c Try.underlying29 Try.underlying5
  go_enter Try.func7, Try.ntmps7
  go_wp2_with (fail)
  refine (new_held (w0 := w) 10 (by omega) (Below.refl _ _)).mono ?_
  rintro e w1 ⟨rfl, h1⟩
  have H1 := Aside0.mk h1
  clear h1
  go_wp2_with (fail)
  refine (write_held (H1.out.alloc _) ⟨#[102]⟩ (nm_le _ (by decide)) _ [97, 98] (src_pair w1 97 98 (2, 3)) (by simp) (fun i hi => by simp [St.used, newSt] at hi) (by simp [newSt])).mono ?_
  rintro e w2 ⟨rfl, h⟩
  have H2 : Aside0 (Held w s1 (w.heap.size + 2) w2) := Aside0.mk h
  clear h
  go_wp2_with (fail)
  refine (sync_held H2.out ⟨#[102]⟩ (nm_le _ (by decide))).mono ?_
  rintro e w3 ⟨rfl, h⟩
  have H3 : Aside0 (Held w s2 (w.heap.size + 2) w3) := Aside0.mk h
  clear h
  go_wp2_with (fail)
  refine (flush_held H3.out).mono ?_
  rintro e w4 ⟨rfl, h⟩
  have H4 : Aside0 (Held w s3 (w.heap.size + 2) w4) := Aside0.mk h
  clear h
  go_wp2_with (fail)
  refine (write_held (H4.out.alloc _) ⟨#[102]⟩ (nm_le _ (by decide)) _ [99, 100] (src_pair w4 99 100 (2, 3)) (by simp) (fun i hi => by have := len_le_room H4.out.wf hi; have e : s3.room = 10 := rfl; simp only [List.length_cons, List.length_nil]; omega) (by decide)).mono ?_
  rintro e w5 ⟨rfl, h⟩
  have H5 : Aside0 (Held w s4 (w.heap.size + 2) w5) := Aside0.mk h
  clear h
  go_wp2_with (fail)
  refine (crash_held H5.out 1).mono ?_
  rintro e w6 ⟨rfl, h⟩
  have H6 : Aside0 (Held w s5 (w.heap.size + 2) w6) := Aside0.mk h
  clear h
  go_wp2_with (fail)
  refine (read_held H6.out ⟨#[102]⟩ (nm_le _ (by decide)) (i := 0) (by decide +kernel) (by decide +kernel)).mono ?_
  rintro e w7 ⟨v, rfl, hr, hv, h⟩
  have hr : Row w7 v [97, 98, 99] := hr
  have HR7 := Aside0.mk hr
  have HV7 := Aside0.mk hv
  have H7 : Aside0 (Held w s5 (w.heap.size + 2) w7) := Aside0.mk h
  clear h hr hv
  go_wp2_with (fail)
  refine (read_held_none H7.out ⟨#[103]⟩ (nm_le _ (by decide)) (by decide +kernel)).mono ?_
  rintro e w8 ⟨rfl, rfl⟩
  have hconv := src_string HR7.out.src
  have hmk : ∀ w, (Instr.makeSlice 29 (.int .i64 8) (.int .i64 8)).run Try.prog w = .ok (.slice (some ⟨w.heap.size, 0, none⟩) 8 8) (w.alloc (.cells (zeroRow 8) 5)) := fun w => make_bytes 8 (by omega) w
  go_wp2_with (fail)
  refine (free_held H7.out (by decide)).mono ?_
  rintro e w9 ⟨rfl, h⟩
  rw [show s5.free = 7 from by decide +kernel]
  have H9 := Aside0.mk h
  clear h
  go_wp2_with (fail)
  refine (write_held (H9.out.alloc _) ⟨#[103]⟩ (nm_le _ (by decide)) _ (List.replicate 8 0) (src_zero w9 8 (by decide)) (by simp) (fun i hi => by have := len_le_room H9.out.wf hi; have e : s5.room = 10 := rfl; simp only [List.length_replicate]; omega) (by decide)).mono ?_
  rintro e w10 ⟨rfl, h⟩
  rw [show (s5.write (⟨#[103]⟩ : ByteArray).data.toList (List.replicate 8 0)).1 = 170 from by decide +kernel]
  have HB := Aside0.mk h.below
  clear h
  go_wp2_with (fail)
  go_ret
  exact ⟨rfl, HB.out⟩
end Go.Proofs.Ytcaipccgphblnaa.Dk
