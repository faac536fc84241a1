/- disk: Write. -/
import Derived.Test.YtcaipccgphblnaaFree
namespace Go.Proofs.Ytcaipccgphblnaa.Dk
open Go.RowKit Go.WideMaps Go.Proofs.YtcaipccgphblnaaW.PrintWords
set_option linter.unusedSimpArgs false
theorem add_block (a : Addr) (j : Nat) : (a.add j).block = a.block := by unfold Addr.add; split <;> rfl
theorem bv_not_disk {w : World} {b : Nat} {room left : Int} {m s : Option Nat} {f t : Bool} {a : Addr} {c : UInt8} (hb : w.heap[b]? = some (DCells room (.map m) (.map s) f left t)) (h : w.cell? a = some (bv c)) : a.block ≠ b := by
  intro e
  unfold World.cell? at h
  rw [e, hb] at h
  simp only [DCells] at h
  rcases a with ⟨ab, off, sp⟩
  match off, h with
  | 0, h => simp at h
  | 1, h => simp at h
  | 2, h => simp at h
  | 3, h => simp at h
  | 4, h => simp at h
  | 5, h => simp at h
  | n + 6, h => simp at h
theorem Src.but {w w' : World} {v : Value} {ys : Bs} {b : Nat} {room left : Int} {m s : Option Nat} {f t : Bool} (h : Src w v ys) (hb : But b w w') (hd : w.heap[b]? = some (DCells room (.map m) (.map s) f left t)) : Src w' v ys := by
  rcases h with h | ⟨a, cap, rfl, hcp, hc⟩
  · exact .inl h
  · refine .inr ⟨a, cap, rfl, hcp, fun j c hj => (World.cell?_of_block (hb.block _ (bv_not_disk hd (hc j c hj)))).trans (hc j c hj)⟩
section
variable {L : Lay} {st : St} {fp : Nat → Prop} {b : Nat} {w : World}
theorem nx_fr {wb w' : World} {st' : St} (hb : Fr fp w wb) (hx : Nx st' fp b wb w') : Nx st' fp b w w' := by
  refine nx_trans hb ⟨?_, ⟨hx.2.os, hx.2.tape, hx.2.output, hx.2.size, fun k h1 h2 => hx.2.block k h1 (fun e => h2 (.inl e))⟩⟩
  obtain ⟨⟨L', hA'⟩, hF⟩ := hx
  exact ⟨L', hA'.mono (fun k hk => hk.elim (fun e => .inl (.inl e)) .inr) (fun k hk => hk.elim (fun e => e.elim (fun e => hA'.fpl k (.inl e)) (fun e => Nat.lt_of_lt_of_le e.2 hF.size)) (fun e => e.2))⟩
theorem free_wf_may (hw : Wf st) : Wf st.may := by
  refine ⟨hw.room, ?_, hw.dir, hw.sdir, hw.safe, hw.free⟩
  have := hw.left
  show -9223372036854775808 ≤ (mayS st.failing st.left st.torn).2.1 ∧ (mayS st.failing st.left st.torn).2.1 ≤ 9223372036854775807
  unfold mayS
  split
  · exact this
  · split
    · simp only; omega
    · exact this
/-- Write where it may, the name is one, and there is room. -/
theorem write_lays (h : At L st fp b w) (hw : Wf st) (hok : st.ok = true) (n : ByteArray) (hn : n.size ≤ maxLen) (hn0 : n.data.toList ≠ []) (x : Value) (ys : Bs) (hx : Src w x ys) (hl0 : ys.length ≤ 140737488355328) (hl : ∀ i, st.used i → st.len i + ys.length ≤ 140737488355328) (hfew : st.dir.length ≤ 1000000000)
    (hroom : (ys.length : Int) ≤ st.may.free) :
    Calls Try.prog 9 #[.pointer (some ⟨b, 0, none⟩), .string n, x] w fun e w' => e = .returned (.int .i64 0) ∧ Nx (st.may.lay n.data.toList ys) fp b w w' := by
  obtain ⟨xa, xc, rfl⟩ := hx.form
  have H := Aside0.mk h
  have HW := Aside0.mk hw
  have HL := Aside0.mk hl
  have HL0 := Aside0.mk hl0
  have HF := Aside0.mk hfew
  have HX := Aside0.mk hx
  have HN := Aside0.mk hn
  have HR := Aside0.mk hroom
  have e0 : n.toList.isEmpty = false := by rw [ByteArray.toList_eq]; cases h : n.data.toList with | nil => exact absurd h hn0 | cons => rfl
  have HN0 := Aside0.mk hn0
  clear h hw hl hl0 hfew hx hn hroom hn0
  go_enter Try.func9, Try.ntmps9
  go_wp2_with (fail)
  refine (may_at H.out HW.out).mono ?_
  rintro e w1 ⟨rfl, hA, hb⟩
  rw [hok]
  have HA := Aside0.mk hA
  have HB := Aside0.mk hb
  clear hA hb
  go_wp2_with (fail)
  refine (free_at HA.out (free_wf_may HW.out) HF.out).mono ?_
  rintro e w2 ⟨rfl, hb2⟩
  have d1 : decide (st.may.free < (ys.length : Int)) = false := by have := HR.out; simp; omega
  have HB2 := Aside0.mk hb2
  clear hb2
  go_wp2_with (fail)
  refine (lay_at (HA.out.below HB2.out) (free_wf_may HW.out) n HN.out _ ys (Src.below (HX.out.but HB.out H.out.cells) HB2.out) HL0.out HL.out (by have := HF.out; show st.dir.length < maxLen; unfold maxLen; omega)).mono ?_
  rintro e w3 ⟨rfl, hx⟩
  have HX3 := Aside0.mk hx
  clear hx
  go_wp2_with (fail)
  go_ret
  exact ⟨rfl, nx_fr ((Fr.of_but HB.out H.out.fpb).trans (Fr.of_below (fp := fp) HB2.out) (fun _ _ h => h)) HX3.out⟩
theorem write_empty (h : At L st fp b w) (hw : Wf st) (hok : st.ok = true) (n : ByteArray) (hn0 : n.data.toList = []) (x : Value) (ys : Bs) (hx : Src w x ys) :
    Calls Try.prog 9 #[.pointer (some ⟨b, 0, none⟩), .string n, x] w fun e w' => e = .returned (.int .i64 2) ∧ Nx st.may fp b w w' := by
  obtain ⟨xa, xc, rfl⟩ := hx.form
  have H := Aside0.mk h
  have HW := Aside0.mk hw
  have e0 : n.toList.isEmpty = true := by rw [ByteArray.toList_eq, hn0]; rfl
  clear h hw hx hn0
  go_enter Try.func9, Try.ntmps9
  go_wp2_with (fail)
  refine (may_at H.out HW.out).mono ?_
  rintro e w1 ⟨rfl, hA, hb⟩
  rw [hok]
  have HA := Aside0.mk hA
  have HB := Aside0.mk hb
  clear hA hb
  go_wp2_with (fail)
  go_ret
  exact ⟨rfl, ⟨L, HA.out.nf (Nat.le_of_eq HB.out.size.symm) H.out.fpl⟩, Fr.of_but HB.out H.out.fpb⟩
theorem write_full (h : At L st fp b w) (hw : Wf st) (hok : st.ok = true) (n : ByteArray) (hn0 : n.data.toList ≠ []) (x : Value) (ys : Bs) (hx : Src w x ys) (hfew : st.dir.length ≤ 1000000000) (hroom : st.may.free < (ys.length : Int)) :
    Calls Try.prog 9 #[.pointer (some ⟨b, 0, none⟩), .string n, x] w fun e w' => e = .returned (.int .i64 170) ∧ Nx st.may fp b w w' := by
  obtain ⟨xa, xc, rfl⟩ := hx.form
  have H := Aside0.mk h
  have HW := Aside0.mk hw
  have HF := Aside0.mk hfew
  have HR := Aside0.mk hroom
  have e0 : n.toList.isEmpty = false := by rw [ByteArray.toList_eq]; cases h : n.data.toList with | nil => exact absurd h hn0 | cons => rfl
  clear h hw hfew hx hroom hn0
  go_enter Try.func9, Try.ntmps9
  go_wp2_with (fail)
  refine (may_at H.out HW.out).mono ?_
  rintro e w1 ⟨rfl, hA, hb⟩
  rw [hok]
  have HA := Aside0.mk hA
  have HB := Aside0.mk hb
  clear hA hb
  go_wp2_with (fail)
  refine (free_at HA.out (free_wf_may HW.out) HF.out).mono ?_
  rintro e w2 ⟨rfl, hb2⟩
  have d1 : decide (st.may.free < (ys.length : Int)) = true := by have := HR.out; simp; omega
  have HB2 := Aside0.mk hb2
  clear hb2
  go_wp2_with (fail)
  go_ret
  exact ⟨rfl, nx_fr (Fr.of_but HB.out H.out.fpb) ⟨⟨L, (HA.out.below HB2.out).nf HB2.out.size HA.out.fpl⟩, Fr.of_below HB2.out⟩⟩
/-- Where it fails, and lays nothing: no need to ask for room. -/
theorem write_torn0 (h : At L st fp b w) (hw : Wf st) (hok : st.ok = false) (n : ByteArray) (x : Value) (ys : Bs) (hx : Src w x ys) (hc : st.first = false ∨ n.data.toList = [] ∨ ys.length ≤ 1) :
    Calls Try.prog 9 #[.pointer (some ⟨b, 0, none⟩), .string n, x] w fun e w' => e = .returned (.int .i64 171) ∧ Nx st.may fp b w w' := by
  obtain ⟨xa, xc, rfl⟩ := hx.form
  have H := Aside0.mk h
  have HW := Aside0.mk hw
  clear h hw hx
  have fin : ∀ w1, At L st.may fp b w1 → But b w w1 → Nx st.may fp b w w1 := fun w1 h1 h2 => ⟨⟨L, h1.nf (Nat.le_of_eq h2.size.symm) H.out.fpl⟩, Fr.of_but h2 H.out.fpb⟩
  have FIN := Aside0.mk fin
  clear fin
  by_cases hf : st.first = false
  · clear hc
    go_enter Try.func9, Try.ntmps9
    go_wp2_with (fail)
    refine (may_at H.out HW.out).mono ?_
    rintro e w1 ⟨rfl, hA, hb⟩
    rw [hok, hf]
    have HA := Aside0.mk hA
    have HB := Aside0.mk hb
    clear hA hb
    go_wp2_with (fail)
    go_ret
    exact ⟨rfl, FIN.out _ HA.out HB.out⟩
  · have hf : st.first = true := by simpa using hf
    by_cases hn0 : n.data.toList = []
    · have e0 : n.toList.isEmpty = true := by rw [ByteArray.toList_eq, hn0]; rfl
      clear hc hn0
      go_enter Try.func9, Try.ntmps9
      go_wp2_with (fail)
      refine (may_at H.out HW.out).mono ?_
      rintro e w1 ⟨rfl, hA, hb⟩
      rw [hok, hf]
      have HA := Aside0.mk hA
      have HB := Aside0.mk hb
      clear hA hb
      go_wp2_with (fail)
      go_ret
      exact ⟨rfl, FIN.out _ HA.out HB.out⟩
    · have e0 : n.toList.isEmpty = false := by rw [ByteArray.toList_eq]; cases h : n.data.toList with | nil => exact absurd h hn0 | cons => rfl
      have hy : ys.length ≤ 1 := by
        rcases hc with hc | hc | hc
        · rw [hf] at hc; cases hc
        · exact absurd hc hn0
        · exact hc
      have d1 : decide (1 < (ys.length : Int)) = false := by simp; omega
      clear hc hn0 hy
      go_enter Try.func9, Try.ntmps9
      go_wp2_with (fail)
      refine (may_at H.out HW.out).mono ?_
      rintro e w1 ⟨rfl, hA, hb⟩
      rw [hok, hf]
      have HA := Aside0.mk hA
      have HB := Aside0.mk hb
      clear hA hb
      go_wp2_with (fail)
      go_ret
      exact ⟨rfl, FIN.out _ HA.out HB.out⟩
theorem write_torn1 (h : At L st fp b w) (hw : Wf st) (hok : st.ok = false) (hf : st.first = true) (n : ByteArray) (hn0 : n.data.toList ≠ []) (x : Value) (ys : Bs) (hx : Src w x ys) (hy : 1 < ys.length) (hfew : st.dir.length ≤ 1000000000) (hroom : st.may.free < (ys.length : Int)) :
    Calls Try.prog 9 #[.pointer (some ⟨b, 0, none⟩), .string n, x] w fun e w' => e = .returned (.int .i64 171) ∧ Nx st.may fp b w w' := by
  obtain ⟨xa, xc, rfl⟩ := hx.form
  have H := Aside0.mk h
  have HW := Aside0.mk hw
  have HF := Aside0.mk hfew
  have HR := Aside0.mk hroom
  have e0 : n.toList.isEmpty = false := by rw [ByteArray.toList_eq]; cases h : n.data.toList with | nil => exact absurd h hn0 | cons => rfl
  have d0 : decide (1 < (ys.length : Int)) = true := by simp; omega
  clear h hw hfew hx hroom hn0 hy
  go_enter Try.func9, Try.ntmps9
  go_wp2_with (fail)
  refine (may_at H.out HW.out).mono ?_
  rintro e w1 ⟨rfl, hA, hb⟩
  rw [hok, hf]
  have HA := Aside0.mk hA
  have HB := Aside0.mk hb
  clear hA hb
  go_wp2_with (fail)
  refine (free_at HA.out (free_wf_may HW.out) HF.out).mono ?_
  rintro e w2 ⟨rfl, hb2⟩
  have d1 : decide ((ys.length : Int) ≤ st.may.free) = false := by have := HR.out; simp; omega
  have HB2 := Aside0.mk hb2
  clear hb2
  go_wp2_with (fail)
  go_ret
  exact ⟨rfl, nx_fr (Fr.of_but HB.out H.out.fpb) ⟨⟨L, (HA.out.below HB2.out).nf HB2.out.size HA.out.fpl⟩, Fr.of_below HB2.out⟩⟩
theorem Src.take {w : World} {a : Option Addr} {c : Nat} {ys : Bs} (h : Src w (.slice a ys.length c) ys) (k : Nat) (hk : k ≤ ys.length) : Src w (.slice a k c) (ys.take k) := by
  rcases h with ⟨hv, rfl⟩ | ⟨a', cap, hv, hcp, hc⟩
  · have hk0 : k = 0 := by simpa using hk
    subst hk0; cases hv
    exact .inl ⟨rfl, by simp⟩
  · cases hv
    refine .inr ⟨a', c, by simp [Nat.min_eq_left hk], by simp only [List.length_take, Nat.min_eq_left hk]; omega, fun j d hj => hc j d ?_⟩
    rw [List.getElem?_take] at hj
    split at hj
    · exact hj
    · cases hj
/-- Where it fails first: half of the bytes are laid. -/
theorem write_torn2 (h : At L st fp b w) (hw : Wf st) (hok : st.ok = false) (hf : st.first = true) (n : ByteArray) (hn : n.size ≤ maxLen) (hn0 : n.data.toList ≠ []) (x : Value) (ys : Bs) (hx : Src w x ys) (hl0 : ys.length ≤ 140737488355328) (hl : ∀ i, st.used i → st.len i + ys.length ≤ 140737488355328) (hy : 1 < ys.length) (hfew : st.dir.length ≤ 1000000000) (hroom : (ys.length : Int) ≤ st.may.free) :
    Calls Try.prog 9 #[.pointer (some ⟨b, 0, none⟩), .string n, x] w fun e w' => e = .returned (.int .i64 171) ∧ Nx (st.may.lay n.data.toList (ys.take (ys.length / 2))) fp b w w' := by
  obtain ⟨xa, xc, rfl⟩ := hx.form
  have H := Aside0.mk h
  have HW := Aside0.mk hw
  have HL := Aside0.mk hl
  have HL0 := Aside0.mk hl0
  have HF := Aside0.mk hfew
  have HX := Aside0.mk hx
  have HN := Aside0.mk hn
  have HR := Aside0.mk hroom
  have HY := Aside0.mk hy
  have e0 : n.toList.isEmpty = false := by rw [ByteArray.toList_eq]; cases h : n.data.toList with | nil => exact absurd h hn0 | cons => rfl
  have d0 : decide (1 < (ys.length : Int)) = true := by simp; omega
  clear h hw hl hl0 hfew hx hn hroom hn0 hy
  go_enter Try.func9, Try.ntmps9
  go_wp2_with (fail)
  refine (may_at H.out HW.out).mono ?_
  rintro e w1 ⟨rfl, hA, hb⟩
  rw [hok, hf]
  have HA := Aside0.mk hA
  have HB := Aside0.mk hb
  clear hA hb
  go_wp2_with (fail)
  refine (free_at HA.out (free_wf_may HW.out) HF.out).mono ?_
  rintro e w2 ⟨rfl, hb2⟩
  have d1 : decide ((ys.length : Int) ≤ st.may.free) = true := by have := HR.out; simp; omega
  have HB2 := Aside0.mk hb2
  clear hb2
  have hcp := HX.out.cap.1
  have hcm : xc ≤ 9223372036854775807 := HX.out.cap.2
  have hk : ys.length / 2 ≤ ys.length := by omega
  go_wp2_with (fail)
  refine (lay_at (HA.out.below HB2.out) (free_wf_may HW.out) n HN.out _ (ys.take (ys.length / 2)) ((Src.below (HX.out.but HB.out H.out.cells) HB2.out).take _ hk) (by have := HL0.out; rw [List.length_take]; omega) (fun i hi => by have := HL.out i hi; rw [List.length_take]; show st.len i + _ ≤ _; omega) (by have := HF.out; show st.dir.length < maxLen; unfold maxLen; omega)).mono ?_
  rintro e w3 ⟨rfl, hx⟩
  have HX3 := Aside0.mk hx
  clear hx
  go_wp2_with (fail)
  go_ret
  exact ⟨rfl, nx_fr ((Fr.of_but HB.out H.out.fpb).trans (Fr.of_below (fp := fp) HB2.out) (fun _ _ h => h)) HX3.out⟩
theorem write_at (h : At L st fp b w) (hw : Wf st) (n : ByteArray) (hn : n.size ≤ maxLen) (x : Value) (ys : Bs) (hx : Src w x ys) (hl0 : ys.length ≤ 140737488355328) (hl : ∀ i, st.used i → st.len i + ys.length ≤ 140737488355328) (hfew : st.dir.length ≤ 1000000000) :
    Calls Try.prog 9 #[.pointer (some ⟨b, 0, none⟩), .string n, x] w fun e w' => e = .returned (.int .i64 (st.write n.data.toList ys).1) ∧ Nx (st.write n.data.toList ys).2 fp b w w' := by
  unfold St.write
  by_cases hok : st.ok = false
  · rw [if_pos hok]
    by_cases hc : st.first = true ∧ n.data.toList ≠ [] ∧ 1 < ys.length ∧ (ys.length : Int) ≤ st.may.free
    · rw [if_pos hc]
      exact write_torn2 h hw hok hc.1 n hn hc.2.1 x ys hx hl0 hl hc.2.2.1 hfew hc.2.2.2
    · rw [if_neg hc]
      by_cases h1 : st.first = false ∨ n.data.toList = [] ∨ ys.length ≤ 1
      · exact write_torn0 h hw hok n x ys hx h1
      · have hf : st.first = true := by cases hh : st.first with | true => rfl | false => exact absurd (.inl hh) h1
        have hn0 : n.data.toList ≠ [] := fun e => h1 (.inr (.inl e))
        have hy : 1 < ys.length := Nat.lt_of_not_le fun e => h1 (.inr (.inr e))
        have hroom : st.may.free < (ys.length : Int) := Int.lt_of_not_ge fun e => hc ⟨hf, hn0, hy, e⟩
        exact write_torn1 h hw hok hf n hn0 x ys hx hy hfew hroom
  · rw [if_neg hok]
    have hok : st.ok = true := by simpa using hok
    by_cases hn0 : n.data.toList = []
    · rw [if_pos hn0]; exact write_empty h hw hok n hn0 x ys hx
    · rw [if_neg hn0]
      by_cases hroom : st.may.free < (ys.length : Int)
      · rw [if_pos hroom]; exact write_full h hw hok n hn0 x ys hx hfew hroom
      · rw [if_neg hroom]; exact write_lays h hw hok n hn hn0 x ys hx hl0 hl hfew (by omega)
end
end Go.Proofs.Ytcaipccgphblnaa.Dk
