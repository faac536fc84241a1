/- disk: the document's Write. -/
import Derived.Test.YtcaipccgphblnaaRefLay
namespace Go.Proofs.Ytcaipccgphblnaa.Dk
open Go.RowKit Go.WideMaps Go.Proofs.YtcaipccgphblnaaW.PrintWords
set_option linter.unusedSimpArgs false
section
variable {R : RLay} {st : St} {fp : Nat → Prop} {b : Nat} {w : World}
/-- Write where it may, the name is one, and there is room. -/
theorem rwrite_lays (h : RAt R st fp b w) (hw : Wf st) (hok : st.ok = true) (n : ByteArray) (hn0 : n.data.toList ≠ []) (x : Value) (ys : Bs) (hx : Src w x ys) (hoff : Off fp x) (hl0 : ys.length ≤ 140737488355328) (hl : ∀ i, st.used i → st.len i + ys.length ≤ 140737488355328) (hfew : (st.dir.length ≤ 1000000 ∧ st.safe.length ≤ 1000000 ∧ st.files.length ≤ 1000000))
    (hroom : (ys.length : Int) ≤ st.may.free) :
    Calls Try.prog 34 #[.pointer (some ⟨b, 0, none⟩), .string n, x] w fun e w' => e = .returned (.int .i64 0) ∧ RNx (st.may.lay n.data.toList ys) fp b w w' := by
  obtain ⟨xa, xc, rfl⟩ := hx.form
  have H := Aside0.mk h
  have HW := Aside0.mk hw
  have HL := Aside0.mk hl
  have HL0 := Aside0.mk hl0
  have HF := Aside0.mk hfew
  have HX := Aside0.mk hx
  have HO := Aside0.mk hoff
  have HR := Aside0.mk hroom
  have z0 : n.size ≠ 0 := by rw [Lib.size_eq]; exact fun e => hn0 (List.eq_nil_of_length_eq_zero e)
  have e0 : decide (0 < n.size) = true := by simp; omega
  have e1 : ((n.size : Int) == 0) = false := by simpa using z0
  clear z0
  have HN0 := Aside0.mk hn0
  clear h hw hl hl0 hfew hx hoff hroom hn0
  go_enter Try.func34, Try.ntmps34
  go_wp2_with (fail)
  refine (ref_may H.out HW.out).mono ?_
  rintro e w1 ⟨rfl, hA, hb⟩
  rw [hok]
  have HA := Aside0.mk hA
  have HB := Aside0.mk hb
  clear hA hb
  go_wp2_with (fail)
  refine (ref_free HA.out (free_wf_may HW.out) HF.out.1 HF.out.2.1 HF.out.2.2).mono ?_
  rintro e w2 ⟨rfl, hb2⟩
  have d1 : decide (st.may.free < (ys.length : Int)) = false := by have := HR.out; simp; omega
  have FR := Aside0.mk ((Fr.of_but HB.out H.out.fpb).trans (Fr.of_below (fp := fp) hb2) (fun _ _ h => h))
  have HB2 := Aside0.mk hb2
  clear hb2
  go_wp2_with (fail)
  refine (ref_lay (HA.out.below HB2.out) (free_wf_may HW.out) n _ ys (HX.out.fr FR.out HO.out) HO.out HF.out.1 HF.out.2.2 HL0.out HL.out).mono ?_
  rintro e w3 ⟨rfl, hx⟩
  have HX3 := Aside0.mk hx
  clear hx
  go_wp2_with (fail)
  go_ret
  exact ⟨rfl, rnx_fr ((Fr.of_but HB.out H.out.fpb).trans (Fr.of_below (fp := fp) HB2.out) (fun _ _ h => h)) HX3.out⟩
theorem rwrite_empty (h : RAt R st fp b w) (hw : Wf st) (hok : st.ok = true) (n : ByteArray) (hn0 : n.data.toList = []) (x : Value) (ys : Bs) (hx : Src w x ys) :
    Calls Try.prog 34 #[.pointer (some ⟨b, 0, none⟩), .string n, x] w fun e w' => e = .returned (.int .i64 2) ∧ RNx st.may fp b w w' := by
  obtain ⟨xa, xc, rfl⟩ := hx.form
  have H := Aside0.mk h
  have HW := Aside0.mk hw
  have z0 : n.size = 0 := by rw [Lib.size_eq, hn0]; rfl
  have e0 : decide (0 < n.size) = false := by simp [z0]
  have e1 : ((n.size : Int) == 0) = true := by simp [z0]
  clear z0
  clear h hw hx hn0
  go_enter Try.func34, Try.ntmps34
  go_wp2_with (fail)
  refine (ref_may H.out HW.out).mono ?_
  rintro e w1 ⟨rfl, hA, hb⟩
  rw [hok]
  have HA := Aside0.mk hA
  have HB := Aside0.mk hb
  clear hA hb
  go_wp2_with (fail)
  go_ret
  exact ⟨rfl, ⟨R, HA.out.nf (Nat.le_of_eq HB.out.size.symm) H.out.fpl⟩, Fr.of_but HB.out H.out.fpb⟩
theorem rwrite_full (h : RAt R st fp b w) (hw : Wf st) (hok : st.ok = true) (n : ByteArray) (hn0 : n.data.toList ≠ []) (x : Value) (ys : Bs) (hx : Src w x ys) (hfew : (st.dir.length ≤ 1000000 ∧ st.safe.length ≤ 1000000 ∧ st.files.length ≤ 1000000)) (hroom : st.may.free < (ys.length : Int)) :
    Calls Try.prog 34 #[.pointer (some ⟨b, 0, none⟩), .string n, x] w fun e w' => e = .returned (.int .i64 170) ∧ RNx st.may fp b w w' := by
  obtain ⟨xa, xc, rfl⟩ := hx.form
  have H := Aside0.mk h
  have HW := Aside0.mk hw
  have HF := Aside0.mk hfew
  have HR := Aside0.mk hroom
  have z0 : n.size ≠ 0 := by rw [Lib.size_eq]; exact fun e => hn0 (List.eq_nil_of_length_eq_zero e)
  have e0 : decide (0 < n.size) = true := by simp; omega
  have e1 : ((n.size : Int) == 0) = false := by simpa using z0
  clear z0
  clear h hw hfew hx hroom hn0
  go_enter Try.func34, Try.ntmps34
  go_wp2_with (fail)
  refine (ref_may H.out HW.out).mono ?_
  rintro e w1 ⟨rfl, hA, hb⟩
  rw [hok]
  have HA := Aside0.mk hA
  have HB := Aside0.mk hb
  clear hA hb
  go_wp2_with (fail)
  refine (ref_free HA.out (free_wf_may HW.out) HF.out.1 HF.out.2.1 HF.out.2.2).mono ?_
  rintro e w2 ⟨rfl, hb2⟩
  have d1 : decide (st.may.free < (ys.length : Int)) = true := by have := HR.out; simp; omega
  have FR := Aside0.mk ((Fr.of_but HB.out H.out.fpb).trans (Fr.of_below (fp := fp) hb2) (fun _ _ h => h))
  have HB2 := Aside0.mk hb2
  clear hb2
  go_wp2_with (fail)
  go_ret
  exact ⟨rfl, rnx_fr (Fr.of_but HB.out H.out.fpb) ⟨⟨R, (HA.out.below HB2.out).nf HB2.out.size HA.out.fpl⟩, Fr.of_below HB2.out⟩⟩
/-- Where it fails, and lays nothing: no need to ask for room. -/
theorem rwrite_torn0 (h : RAt R st fp b w) (hw : Wf st) (hok : st.ok = false) (n : ByteArray) (x : Value) (ys : Bs) (hx : Src w x ys) (hc : st.first = false ∨ n.data.toList = [] ∨ ys.length ≤ 1) :
    Calls Try.prog 34 #[.pointer (some ⟨b, 0, none⟩), .string n, x] w fun e w' => e = .returned (.int .i64 171) ∧ RNx st.may fp b w w' := by
  obtain ⟨xa, xc, rfl⟩ := hx.form
  have H := Aside0.mk h
  have HW := Aside0.mk hw
  clear h hw hx
  have fin : ∀ w1, RAt R st.may fp b w1 → But b w w1 → RNx st.may fp b w w1 := fun w1 h1 h2 => ⟨⟨R, h1.nf (Nat.le_of_eq h2.size.symm) H.out.fpl⟩, Fr.of_but h2 H.out.fpb⟩
  have FIN := Aside0.mk fin
  clear fin
  by_cases hf : st.first = false
  · clear hc
    go_enter Try.func34, Try.ntmps34
    go_wp2_with (fail)
    refine (ref_may H.out HW.out).mono ?_
    rintro e w1 ⟨rfl, hA, hb⟩
    rw [hok, hf]
    have HA := Aside0.mk hA
    have HB := Aside0.mk hb
    clear hA hb
    go_wp2_with (fail)
    go_ret
    exact ⟨rfl, FIN.out _ HA.out HB.out⟩
  · have hf : st.first = true := by simpa using hf
    by_cases hn0 : n.data.toList = []
    · have z0 : n.size = 0 := by rw [Lib.size_eq, hn0]; rfl
      have e0 : decide (0 < n.size) = false := by simp [z0]
      have e1 : ((n.size : Int) == 0) = true := by simp [z0]
      clear z0
      clear hc hn0
      go_enter Try.func34, Try.ntmps34
      go_wp2_with (fail)
      refine (ref_may H.out HW.out).mono ?_
      rintro e w1 ⟨rfl, hA, hb⟩
      rw [hok, hf]
      have HA := Aside0.mk hA
      have HB := Aside0.mk hb
      clear hA hb
      go_wp2_with (fail)
      go_ret
      exact ⟨rfl, FIN.out _ HA.out HB.out⟩
    · have z0 : n.size ≠ 0 := by rw [Lib.size_eq]; exact fun e => hn0 (List.eq_nil_of_length_eq_zero e)
      have e0 : decide (0 < n.size) = true := by simp; omega
      have e1 : ((n.size : Int) == 0) = false := by simpa using z0
      clear z0
      have hy : ys.length ≤ 1 := by
        rcases hc with hc | hc | hc
        · rw [hf] at hc; cases hc
        · exact absurd hc hn0
        · exact hc
      have d1 : decide (1 < (ys.length : Int)) = false := by simp; omega
      clear hc hn0 hy
      go_enter Try.func34, Try.ntmps34
      go_wp2_with (fail)
      refine (ref_may H.out HW.out).mono ?_
      rintro e w1 ⟨rfl, hA, hb⟩
      rw [hok, hf]
      have HA := Aside0.mk hA
      have HB := Aside0.mk hb
      clear hA hb
      go_wp2_with (fail)
      go_ret
      exact ⟨rfl, FIN.out _ HA.out HB.out⟩
theorem rwrite_torn1 (h : RAt R st fp b w) (hw : Wf st) (hok : st.ok = false) (hf : st.first = true) (n : ByteArray) (hn0 : n.data.toList ≠ []) (x : Value) (ys : Bs) (hx : Src w x ys) (hy : 1 < ys.length) (hfew : (st.dir.length ≤ 1000000 ∧ st.safe.length ≤ 1000000 ∧ st.files.length ≤ 1000000)) (hroom : st.may.free < (ys.length : Int)) :
    Calls Try.prog 34 #[.pointer (some ⟨b, 0, none⟩), .string n, x] w fun e w' => e = .returned (.int .i64 171) ∧ RNx st.may fp b w w' := by
  obtain ⟨xa, xc, rfl⟩ := hx.form
  have H := Aside0.mk h
  have HW := Aside0.mk hw
  have HF := Aside0.mk hfew
  have HR := Aside0.mk hroom
  have z0 : n.size ≠ 0 := by rw [Lib.size_eq]; exact fun e => hn0 (List.eq_nil_of_length_eq_zero e)
  have e0 : decide (0 < n.size) = true := by simp; omega
  have e1 : ((n.size : Int) == 0) = false := by simpa using z0
  clear z0
  have d0 : decide (1 < (ys.length : Int)) = true := by simp; omega
  clear h hw hfew hx hroom hn0 hy
  go_enter Try.func34, Try.ntmps34
  go_wp2_with (fail)
  refine (ref_may H.out HW.out).mono ?_
  rintro e w1 ⟨rfl, hA, hb⟩
  rw [hok, hf]
  have HA := Aside0.mk hA
  have HB := Aside0.mk hb
  clear hA hb
  go_wp2_with (fail)
  refine (ref_free HA.out (free_wf_may HW.out) HF.out.1 HF.out.2.1 HF.out.2.2).mono ?_
  rintro e w2 ⟨rfl, hb2⟩
  have d1 : decide ((ys.length : Int) ≤ st.may.free) = false := by have := HR.out; simp; omega
  have FR := Aside0.mk ((Fr.of_but HB.out H.out.fpb).trans (Fr.of_below (fp := fp) hb2) (fun _ _ h => h))
  have HB2 := Aside0.mk hb2
  clear hb2
  go_wp2_with (fail)
  go_ret
  exact ⟨rfl, rnx_fr (Fr.of_but HB.out H.out.fpb) ⟨⟨R, (HA.out.below HB2.out).nf HB2.out.size HA.out.fpl⟩, Fr.of_below HB2.out⟩⟩
/-- Where it fails first: half of the bytes are laid. -/
theorem rwrite_torn2 (h : RAt R st fp b w) (hw : Wf st) (hok : st.ok = false) (hf : st.first = true) (n : ByteArray) (hn0 : n.data.toList ≠ []) (x : Value) (ys : Bs) (hx : Src w x ys) (hoff : Off fp x) (hl0 : ys.length ≤ 140737488355328) (hl : ∀ i, st.used i → st.len i + ys.length ≤ 140737488355328) (hy : 1 < ys.length) (hfew : (st.dir.length ≤ 1000000 ∧ st.safe.length ≤ 1000000 ∧ st.files.length ≤ 1000000)) (hroom : (ys.length : Int) ≤ st.may.free) :
    Calls Try.prog 34 #[.pointer (some ⟨b, 0, none⟩), .string n, x] w fun e w' => e = .returned (.int .i64 171) ∧ RNx (st.may.lay n.data.toList (ys.take (ys.length / 2))) fp b w w' := by
  obtain ⟨xa, xc, rfl⟩ := hx.form
  have H := Aside0.mk h
  have HW := Aside0.mk hw
  have HL := Aside0.mk hl
  have HL0 := Aside0.mk hl0
  have HF := Aside0.mk hfew
  have HX := Aside0.mk hx
  have HO := Aside0.mk hoff
  have HR := Aside0.mk hroom
  have HY := Aside0.mk hy
  have z0 : n.size ≠ 0 := by rw [Lib.size_eq]; exact fun e => hn0 (List.eq_nil_of_length_eq_zero e)
  have e0 : decide (0 < n.size) = true := by simp; omega
  have e1 : ((n.size : Int) == 0) = false := by simpa using z0
  clear z0
  have d0 : decide (1 < (ys.length : Int)) = true := by simp; omega
  clear h hw hl hl0 hfew hx hoff hroom hn0 hy
  go_enter Try.func34, Try.ntmps34
  go_wp2_with (fail)
  refine (ref_may H.out HW.out).mono ?_
  rintro e w1 ⟨rfl, hA, hb⟩
  rw [hok, hf]
  have HA := Aside0.mk hA
  have HB := Aside0.mk hb
  clear hA hb
  go_wp2_with (fail)
  refine (ref_free HA.out (free_wf_may HW.out) HF.out.1 HF.out.2.1 HF.out.2.2).mono ?_
  rintro e w2 ⟨rfl, hb2⟩
  have d1 : decide ((ys.length : Int) ≤ st.may.free) = true := by have := HR.out; simp; omega
  have FR := Aside0.mk ((Fr.of_but HB.out H.out.fpb).trans (Fr.of_below (fp := fp) hb2) (fun _ _ h => h))
  have HB2 := Aside0.mk hb2
  clear hb2
  have hcp := HX.out.cap.1
  have hcm : xc ≤ 9223372036854775807 := HX.out.cap.2
  have hk : ys.length / 2 ≤ ys.length := by omega
  go_wp2_with (fail)
  refine (ref_lay (HA.out.below HB2.out) (free_wf_may HW.out) n _ (ys.take (ys.length / 2)) ((HX.out.fr FR.out HO.out).take _ hk) (fun a n k e hn => by cases e; exact HO.out _ _ _ rfl (by omega)) HF.out.1 HF.out.2.2 (by have := HL0.out; rw [List.length_take]; omega) (fun i hi => by have := HL.out i hi; rw [List.length_take]; show st.len i + _ ≤ _; omega)).mono ?_
  rintro e w3 ⟨rfl, hx⟩
  have HX3 := Aside0.mk hx
  clear hx
  go_wp2_with (fail)
  go_ret
  exact ⟨rfl, rnx_fr ((Fr.of_but HB.out H.out.fpb).trans (Fr.of_below (fp := fp) HB2.out) (fun _ _ h => h)) HX3.out⟩
theorem ref_write (h : RAt R st fp b w) (hw : Wf st) (n : ByteArray) (x : Value) (ys : Bs) (hx : Src w x ys) (hoff : Off fp x) (hl0 : ys.length ≤ 140737488355328) (hl : ∀ i, st.used i → st.len i + ys.length ≤ 140737488355328) (hfew : (st.dir.length ≤ 1000000 ∧ st.safe.length ≤ 1000000 ∧ st.files.length ≤ 1000000)) :
    Calls Try.prog 34 #[.pointer (some ⟨b, 0, none⟩), .string n, x] w fun e w' => e = .returned (.int .i64 (st.write n.data.toList ys).1) ∧ RNx (st.write n.data.toList ys).2 fp b w w' := by
  unfold St.write
  by_cases hok : st.ok = false
  · rw [if_pos hok]
    by_cases hc : st.first = true ∧ n.data.toList ≠ [] ∧ 1 < ys.length ∧ (ys.length : Int) ≤ st.may.free
    · rw [if_pos hc]
      exact rwrite_torn2 h hw hok hc.1 n hc.2.1 x ys hx hoff hl0 hl hc.2.2.1 hfew hc.2.2.2
    · rw [if_neg hc]
      by_cases h1 : st.first = false ∨ n.data.toList = [] ∨ ys.length ≤ 1
      · exact rwrite_torn0 h hw hok n x ys hx h1
      · have hf : st.first = true := by cases hh : st.first with | true => rfl | false => exact absurd (.inl hh) h1
        have hn0 : n.data.toList ≠ [] := fun e => h1 (.inr (.inl e))
        have hy : 1 < ys.length := Nat.lt_of_not_le fun e => h1 (.inr (.inr e))
        have hroom : st.may.free < (ys.length : Int) := Int.lt_of_not_ge fun e => hc ⟨hf, hn0, hy, e⟩
        exact rwrite_torn1 h hw hok hf n hn0 x ys hx hy hfew hroom
  · rw [if_neg hok]
    have hok : st.ok = true := by simpa using hok
    by_cases hn0 : n.data.toList = []
    · rw [if_pos hn0]; exact rwrite_empty h hw hok n hn0 x ys hx
    · rw [if_neg hn0]
      by_cases hroom : st.may.free < (ys.length : Int)
      · rw [if_pos hroom]; exact rwrite_full h hw hok n hn0 x ys hx hfew hroom
      · rw [if_neg hroom]; exact rwrite_lays h hw hok n hn0 x ys hx hoff hl0 hl hfew (by omega)
end
end Go.Proofs.Ytcaipccgphblnaa.Dk
