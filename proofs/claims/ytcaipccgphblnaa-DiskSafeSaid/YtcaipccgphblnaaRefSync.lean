/- disk: the document's Sync. -/
import Derived.Test.YtcaipccgphblnaaRefUpd
namespace Go.Proofs.Ytcaipccgphblnaa.Dk
open Go.RowKit Go.WideMaps Go.Proofs.YtcaipccgphblnaaW.PrintWords
set_option linter.unusedSimpArgs false
section
variable {R : RLay} {st : St} {fp : Nat → Prop} {b : Nat} {w : World}
theorem RAt.drew (h : RAt R st fp b w) : RAt R st fp b w.drew := h.keep (Nat.le_refl _) fun _ _ => rfl
set_option maxRecDepth 100000 in
theorem ref_sync (h : RAt R st fp b w) (hw : Wf st) (n : ByteArray) (hl : st.dir.length ≤ 1000000) :
    Calls Try.prog 37 #[.pointer (some ⟨b, 0, none⟩), .string n] w fun e w' => e = .returned (.int .i64 (st.sync n.data.toList).1) ∧ RNx (st.sync n.data.toList).2 fp b w w' := by
  have H := Aside0.mk h
  have HW := Aside0.mk hw
  have HL := Aside0.mk hl
  have HM := Aside0.mk (ref_may h hw)
  clear h hw hl
  by_cases hok : st.ok = false
  · have hs : st.sync n.data.toList = (171, st.may) := by simp [St.sync, hok]
    rw [hs]
    clear hs
    go_enter Try.func37, Try.ntmps37
    go_wp2_with (fail)
    refine HM.out.mono ?_
    rintro e w1 ⟨rfl, hA, hb⟩
    rw [hok]
    have c2 : w1.cell? ⟨b, 2, none⟩ = some R.dv := by simp [World.cell?, hA.cells, RCells]
    have HA := Aside0.mk hA
    have HB := Aside0.mk hb
    clear hA hb
    go_wp2_with (fail)
    refine (find_calls R.dv st.dir n w1 HA.out.dir (by have := HL.out; omega)).mono ?_
    rintro e w2 ⟨rfl, hb2⟩
    have HB2 := Aside0.mk hb2
    clear hb2
    go_wp2_with (fail)
    go_ret
    exact ⟨rfl, rnx_fr (Fr.of_but HB.out H.out.fpb) ⟨⟨R, (HA.out.below HB2.out).nf HB2.out.size HA.out.fpl⟩, Fr.of_below HB2.out⟩⟩
  · have hok : st.ok = true := by simpa using hok
    cases hf : find st.dir n.data.toList with
    | none =>
      have hs : st.sync n.data.toList = (172, st.may) := by simp [St.sync, hok, hf]
      rw [hs]
      have HFI := Aside0.mk (findI_none hf)
      clear hs hf
      go_enter Try.func37, Try.ntmps37
      go_wp2_with (fail)
      refine HM.out.mono ?_
      rintro e w1 ⟨rfl, hA, hb⟩
      rw [hok]
      have c2 : w1.cell? ⟨b, 2, none⟩ = some R.dv := by simp [World.cell?, hA.cells, RCells]
      have HA := Aside0.mk hA
      have HB := Aside0.mk hb
      clear hA hb
      go_wp2_with (fail)
      refine (find_calls R.dv st.dir n w1 HA.out.dir (by have := HL.out; omega)).mono ?_
      rintro e w2 ⟨rfl, hb2⟩
      rw [HFI.out]
      have HB2 := Aside0.mk hb2
      clear hb2
      go_wp2_with (fail)
      go_ret
      exact ⟨rfl, rnx_fr (Fr.of_but HB.out H.out.fpb) ⟨⟨R, (HA.out.below HB2.out).nf HB2.out.size HA.out.fpl⟩, Fr.of_below HB2.out⟩⟩
    | some i =>
      have hi : i < st.files.length := used_lt HW.out (find_used hf)
      have hs : st.sync n.data.toList = (0, st.may.upd i ⟨(st.file i).b, (st.file i).b.length⟩) := by simp [St.sync, hok, hf, St.len]
      rw [hs]
      have HFI := Aside0.mk (findI_some hf)
      have d0 : decide ((i : Int) < 0) = false := by simp
      have HI := Aside0.mk hi
      clear hs hf hi
      go_enter Try.func37, Try.ntmps37
      go_wp2_with (fail)
      refine HM.out.mono ?_
      rintro e w1 ⟨rfl, hA, hb⟩
      rw [hok]
      have c2 : w1.cell? ⟨b, 2, none⟩ = some R.dv := by simp [World.cell?, hA.cells, RCells]
      have HA := Aside0.mk hA
      have HB := Aside0.mk hb
      clear hA hb
      go_wp2_with (fail)
      refine (find_calls R.dv st.dir n w1 HA.out.dir (by have := HL.out; omega)).mono ?_
      rintro e w2 ⟨rfl, hb2⟩
      rw [HFI.out]
      have hA2 := HA.out.below hb2
      obtain ⟨g, cap, ra, rcap, hfv, hrv, l1, l2, m1, m2, k0, k1, k2, z1, z2⟩ := RAt.fileAt hA2.drew (i := i) HI.out
      have hfl : st.may.files.length = st.files.length := rfl
      have hfi : st.may.file i = st.file i := rfl
      rw [hfl] at hfv l1 k0
      rw [hfi] at hrv m1 k1 k2
      have i1 : (i : Int) < st.files.length := by have := HI.out; omega
      have HA2 := Aside0.mk hA2
      have HB2 := Aside0.mk hb2
      have HFV := Aside0.mk hfv
      have HRV := Aside0.mk hrv
      have HL1 := Aside0.mk l1
      have HL2 := Aside0.mk l2
      have HM1 := Aside0.mk m1
      have HM2 := Aside0.mk m2
      clear hb2 hA2 hfv hrv l1 l2 m1 m2 hfl hfi
      have j0 : w2.cell? ⟨b, 1, none⟩ = some (.slice (some ⟨g, 0, none⟩) st.files.length cap) := k0
      have j1 : w2.cell? ⟨g, i * 2, none⟩ = some (.slice ra (st.file i).b.length rcap) := k1
      go_wp2_with (fail)
      go_still_tail 16, (by kernel_rfl)
      change wpList _ _ _ _ _ w2.drew
      obtain ⟨w3, hw3⟩ : ∃ w3, w2.drew = w3 := ⟨_, rfl⟩
      rw [hw3] at k0 k1 k2 z1 z2 ⊢
      clear j0 j1
      have HW3 := Aside0.mk hw3
      clear hw3
      go_wp2_with (fail)
      go_ret
      have hd : Below w2.heap.size w2 w3 := by rw [← HW3.out]; exact (Below.refl _ _).drew
      exact ⟨rfl, rnx_fr ((Fr.of_but HB.out H.out.fpb).trans (Fr.of_below (fp := fp) HB2.out) (fun _ _ h => h)) (rnx_of (HA2.out.setS (i := i) HI.out (g := g) (by rw [HFV.out]; rfl) hd (st.file i).b.length))⟩
end
end Go.Proofs.Ytcaipccgphblnaa.Dk
