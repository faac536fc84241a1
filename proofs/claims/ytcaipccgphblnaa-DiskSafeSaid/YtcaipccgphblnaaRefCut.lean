/- disk: the document's Cut. -/
import Derived.Test.YtcaipccgphblnaaRefApp
import Derived.Deep.RegionLaw
namespace Go.Proofs.Ytcaipccgphblnaa.Dk
open Go.RowKit Go.WideMaps Go.Proofs.YtcaipccgphblnaaW.PrintWords
set_option linter.unusedSimpArgs false
section
variable {R : RLay} {st : St} {fp : Nat → Prop} {b : Nat} {w : World}
theorem src_take {w : World} {a : Option Addr} {cap : Nat} {xs : Bs} (h : Src w (.slice a xs.length cap) xs) (m : Nat) (hm : m ≤ xs.length) : Src w (.slice a m cap) (xs.take m) := by
  rcases h with ⟨h, rfl⟩ | ⟨a', cap', h, hcp, hc⟩
  · cases h
    have : m = 0 := by simpa using hm
    subst this
    exact .inl ⟨rfl, rfl⟩
  · cases h
    refine .inr ⟨a', cap, by rw [List.length_take, Nat.min_eq_left hm], ⟨by rw [List.length_take, Nat.min_eq_left hm]; omega, hcp.2⟩, fun j c hj => hc j c ?_⟩
    rw [List.getElem?_take] at hj
    split at hj
    · exact hj
    · cases hj
set_option maxRecDepth 100000 in
set_option maxHeartbeats 1000000 in
theorem ref_cut (h : RAt R st fp b w) (hw : Wf st) (n : ByteArray) (k : Int) (hl : st.dir.length ≤ 1000000) (hfl : ∀ i, i < st.files.length → st.len i ≤ 140737488355328) :
    Calls Try.prog 36 #[.pointer (some ⟨b, 0, none⟩), .string n, .int .i64 k] w fun e w' => e = .returned (.int .i64 (st.cut n.data.toList k).1) ∧ RNx (st.cut n.data.toList k).2 fp b w w' := by
  have H := Aside0.mk h
  have HW := Aside0.mk hw
  have HL := Aside0.mk hl
  have HFL := Aside0.mk hfl
  have HM := Aside0.mk (ref_may h hw)
  clear h hw hl hfl
  by_cases hok : st.ok = false
  · have hs : st.cut n.data.toList k = (171, st.may) := by simp [St.cut, hok]
    rw [hs]
    clear hs
    go_enter Try.func36, Try.ntmps36
    go_wp2_with (fail)
    refine HM.out.mono ?_
    rintro e w1 ⟨rfl, hA, hb⟩
    rw [hok]
    have c2 : w1.cell? ⟨b, 2, none⟩ = some R.dv := by simp [World.cell?, hA.cells, RCells]
    have HA := Aside0.mk hA
    have HB := Aside0.mk hb
    clear hA hb
    go_wp2_with (fail)
    refine (find_calls R.dv st.dir n w1 HA.out.dir (by have := HL.out; omega)).mono ?_
    rintro e w2 ⟨rfl, hb2⟩
    have HB2 := Aside0.mk hb2
    clear hb2
    go_wp2_with (fail)
    go_ret
    exact ⟨rfl, rnx_fr (Fr.of_but HB.out H.out.fpb) ⟨⟨R, (HA.out.below HB2.out).nf HB2.out.size HA.out.fpl⟩, Fr.of_below HB2.out⟩⟩
  · have hok : st.ok = true := by simpa using hok
    cases hf : find st.dir n.data.toList with
    | none =>
      have hs : st.cut n.data.toList k = (172, st.may) := by simp [St.cut, hok, hf]
      rw [hs]
      have HFI := Aside0.mk (findI_none hf)
      clear hs hf
      go_enter Try.func36, Try.ntmps36
      go_wp2_with (fail)
      refine HM.out.mono ?_
      rintro e w1 ⟨rfl, hA, hb⟩
      rw [hok]
      have c2 : w1.cell? ⟨b, 2, none⟩ = some R.dv := by simp [World.cell?, hA.cells, RCells]
      have HA := Aside0.mk hA
      have HB := Aside0.mk hb
      clear hA hb
      go_wp2_with (fail)
      refine (find_calls R.dv st.dir n w1 HA.out.dir (by have := HL.out; omega)).mono ?_
      rintro e w2 ⟨rfl, hb2⟩
      rw [HFI.out]
      have HB2 := Aside0.mk hb2
      clear hb2
      go_wp2_with (fail)
      go_ret
      exact ⟨rfl, rnx_fr (Fr.of_but HB.out H.out.fpb) ⟨⟨R, (HA.out.below HB2.out).nf HB2.out.size HA.out.fpl⟩, Fr.of_below HB2.out⟩⟩
    | some i =>
      have hi : i < st.files.length := used_lt HW.out (find_used hf)
      have HFI := Aside0.mk (findI_some hf)
      have d0 : decide ((i : Int) < 0) = false := by simp
      have HI := Aside0.mk hi
      by_cases hk0 : k < 0
      · have hs : st.cut n.data.toList k = (2, st.may) := by simp [St.cut, hok, hf, hk0]
        rw [hs]
        have d1 : decide (k < 0) = true := by simp [hk0]
        clear hs hf hi hk0
        go_enter Try.func36, Try.ntmps36
        go_wp2_with (fail)
        refine HM.out.mono ?_
        rintro e w1 ⟨rfl, hA, hb⟩
        rw [hok]
        have c2 : w1.cell? ⟨b, 2, none⟩ = some R.dv := by simp [World.cell?, hA.cells, RCells]
        have HA := Aside0.mk hA
        have HB := Aside0.mk hb
        clear hA hb
        go_wp2_with (fail)
        refine (find_calls R.dv st.dir n w1 HA.out.dir (by have := HL.out; omega)).mono ?_
        rintro e w2 ⟨rfl, hb2⟩
        rw [HFI.out]
        have hA2 := HA.out.below hb2
        obtain ⟨g, cap, ra, rcap, hfv, hrv, l1, l2, m1, m2, k0, k1, k2, z1, z2⟩ := RAt.fileAt hA2 (i := i) HI.out
        have hfl : st.may.files.length = st.files.length := rfl
        have hfi : st.may.file i = st.file i := rfl
        rw [hfl] at hfv l1 k0
        rw [hfi] at hrv m1 k1 k2
        have i1 : (i : Int) < st.files.length := by have := HI.out; omega
        have HA2 := Aside0.mk hA2
        have HB2 := Aside0.mk hb2
        have HFV := Aside0.mk hfv
        have HRV := Aside0.mk hrv
        have HL1 := Aside0.mk l1
        have HL2 := Aside0.mk l2
        have HM1 := Aside0.mk m1
        have HM2 := Aside0.mk m2
        clear hb2 hA2 hfv hrv l1 l2 m1 m2 hfl hfi
        go_wp2_with (fail)
        go_ret
        exact ⟨rfl, rnx_fr (Fr.of_but HB.out H.out.fpb) ⟨⟨R, HA2.out.nf HB2.out.size HA.out.fpl⟩, Fr.of_below HB2.out⟩⟩
      · by_cases hk1 : ((st.file i).b.length : Int) < k
        · have hs : st.cut n.data.toList k = (2, st.may) := by simp [St.cut, hok, hf, St.len, hk1]
          rw [hs]
          have d1 : decide (k < 0) = false := by simp; omega
          have d2 : decide (((st.file i).b.length : Int) < k) = true := by simp [hk1]
          clear hs hf hi hk0 hk1
          go_enter Try.func36, Try.ntmps36
          go_wp2_with (fail)
          refine HM.out.mono ?_
          rintro e w1 ⟨rfl, hA, hb⟩
          rw [hok]
          have c2 : w1.cell? ⟨b, 2, none⟩ = some R.dv := by simp [World.cell?, hA.cells, RCells]
          have HA := Aside0.mk hA
          have HB := Aside0.mk hb
          clear hA hb
          go_wp2_with (fail)
          refine (find_calls R.dv st.dir n w1 HA.out.dir (by have := HL.out; omega)).mono ?_
          rintro e w2 ⟨rfl, hb2⟩
          rw [HFI.out]
          have hA2 := HA.out.below hb2
          obtain ⟨g, cap, ra, rcap, hfv, hrv, l1, l2, m1, m2, k0, k1, k2, z1, z2⟩ := RAt.fileAt hA2 (i := i) HI.out
          have hfl : st.may.files.length = st.files.length := rfl
          have hfi : st.may.file i = st.file i := rfl
          rw [hfl] at hfv l1 k0
          rw [hfi] at hrv m1 k1 k2
          have i1 : (i : Int) < st.files.length := by have := HI.out; omega
          have HA2 := Aside0.mk hA2
          have HB2 := Aside0.mk hb2
          have HFV := Aside0.mk hfv
          have HRV := Aside0.mk hrv
          have HL1 := Aside0.mk l1
          have HL2 := Aside0.mk l2
          have HM1 := Aside0.mk m1
          have HM2 := Aside0.mk m2
          clear hb2 hA2 hfv hrv l1 l2 m1 m2 hfl hfi
          go_wp2_with (fail)
          go_ret
          exact ⟨rfl, rnx_fr (Fr.of_but HB.out H.out.fpb) ⟨⟨R, HA2.out.nf HB2.out.size HA.out.fpl⟩, Fr.of_below HB2.out⟩⟩
        · have hs : st.cut n.data.toList k = (0, st.may.upd i ⟨(st.file i).b.take k.toNat, min (st.file i).safe k.toNat⟩) := by
            have : ¬ (k < 0 ∨ (st.len i : Int) < k) := by unfold St.len; omega
            simp [St.cut, hok, hf, this]
          rw [hs]
          have d1 : decide (k < 0) = false := by simp; omega
          clear hs hf hi
          go_enter Try.func36, Try.ntmps36
          go_wp2_with (fail)
          refine HM.out.mono ?_
          rintro e w1 ⟨rfl, hA, hb⟩
          rw [hok]
          have c2 : w1.cell? ⟨b, 2, none⟩ = some R.dv := by simp [World.cell?, hA.cells, RCells]
          have HA := Aside0.mk hA
          have HB := Aside0.mk hb
          clear hA hb
          go_wp2_with (fail)
          refine (find_calls R.dv st.dir n w1 HA.out.dir (by have := HL.out; omega)).mono ?_
          rintro e w2 ⟨rfl, hb2⟩
          rw [HFI.out]
          have hA2 := HA.out.below hb2
          obtain ⟨g, cap, ra, rcap, hfv, hrv, l1, l2, m1, m2, k0, k1, k2, z1, z2⟩ := RAt.fileAt hA2 (i := i) HI.out
          have hfl : st.may.files.length = st.files.length := rfl
          have hfi : st.may.file i = st.file i := rfl
          rw [hfl] at hfv l1 k0
          rw [hfi] at hrv m1 k1 k2
          have i1 : (i : Int) < st.files.length := by have := HI.out; omega
          have HA2 := Aside0.mk hA2
          have HB2 := Aside0.mk hb2
          have HFV := Aside0.mk hfv
          have HRV := Aside0.mk hrv
          have HL1 := Aside0.mk l1
          have HL2 := Aside0.mk l2
          have HM1 := Aside0.mk m1
          have HM2 := Aside0.mk m2
          clear hb2 hA2 hfv hrv l1 l2 m1 m2 hfl hfi
          obtain ⟨m, rfl⟩ : ∃ m : Nat, k = m := ⟨k.toNat, by omega⟩
          have hml : m ≤ (st.file i).b.length := by omega
          have d2 : decide (((st.file i).b.length : Int) < m) = false := by simp; omega
          have e1 : ((m : Int)).toNat = m := by simp
          -- region 9: what is cut, laid anew
          have hb3 : Below w2.heap.size w2 (w2.drew.alloc (.cells #[] 5)) := (Below.refl _ _).drew.alloc (by simp) _
          have hsrc : Src (w2.drew.alloc (.cells #[] 5)) (.slice ra m rcap) ((st.file i).b.take m) := by
            have h1 := (HA2.out.row i HI.out).row.src
            rw [HRV.out] at h1
            exact Src.below (src_take h1 m hml) hb3
          have hlm : ((st.file i).b.take m).length = m := by rw [List.length_take, Nat.min_eq_left hml]
          have hf := HFL.out i HI.out
          obtain ⟨v3, w3, hrun, hr3, hg3, ha3⟩ := brow_append 29 (w2.drew.alloc (.cells #[] 5)) (.slice (some ⟨w2.heap.size, 0, none⟩) 0 0) (.slice ra m rcap) [] ((st.file i).b.take m) (brow_made w2.drew) hsrc (by simp only [List.length_nil, hlm]; unfold St.len at hf; omega)
          rw [List.nil_append] at hr3
          obtain ⟨va, vc, hv3, _⟩ := hr3.form
          rw [hlm] at hv3
          subst hv3
          have hnew : ∀ q, (Value.slice va m vc).ownBlock = some q → w2.heap.size ≤ q := by
            intro q hq
            rcases ha3 with e | e
            · rw [e] at hq; cases hq; exact Nat.le_refl _
            · rw [e] at hq; cases hq; simp
          have hb4 : Below w2.heap.size w2 w3 := hb3.grown hg3 (by simp) (fun q e => by cases e; exact Nat.le_refl _)
          have hX := HA2.out.setB (i := i) HI.out (g := g) (by rw [HFV.out]; rfl) (v' := .slice va m vc) (bs := (st.file i).b.take m) (grown_of_below hb4 _) hr3 (.inr hnew)
          have hbl : b < w2.heap.size := HA2.out.lt_b
          have hgl : g < w2.heap.size := HA2.out.files.lt (by rw [HFV.out]; rfl)
          have q0 : (w2.alloc (.cells #[] 5)).cell? ⟨b, 1, none⟩ = some (.slice (some ⟨g, 0, none⟩) st.files.length cap) := (World.cell?_of_block (hb3.block b hbl)).trans k0
          have q1 : (w2.alloc (.cells #[] 5)).cell? ⟨g, i * 2, none⟩ = some (.slice ra (st.file i).b.length rcap) := (World.cell?_of_block (hb3.block g hgl)).trans k1
          have p0 : w3.cell? ⟨b, 1, none⟩ = some (.slice (some ⟨g, 0, none⟩) st.files.length cap) := (World.cell?_of_block (hb4.block b hbl)).trans k0
          have p1 : w3.cell? ⟨g, i * 2, none⟩ = some (.slice ra (st.file i).b.length rcap) := (World.cell?_of_block (hb4.block g hgl)).trans k1
          have p2 : w3.frozen? ⟨g, i * 2, none⟩ = false := by rw [World.frozen?_of_block (hb4.block g hgl)]; exact z1
          have HRUN := Aside0.mk hrun
          have HX := Aside0.mk hX
          have HB4 := Aside0.mk hb4
          have i2 : (m : Int) ≤ rcap := by have := HM1.out; omega
          have i3 : (m : Int) ≤ (st.file i).b.length := by omega
          clear hrun hX hb3 hsrc hlm hf hr3 hg3 ha3 hnew hb4 hml hk0 hk1 hbl hgl
          go_wp2_with (fail)
          apply wp_to
          case h =>
            go_region_law (refine step_append_run rfl _ _ 29 rfl _ _ _ _ rfl rfl HRUN.out ?_)
            all_goals exact ⟨rfl, rfl⟩
          obtain ⟨w4, hw4⟩ : ∃ w4, w3.setCell ⟨g, i * 2, none⟩ (.slice va m vc) = w4 := ⟨_, rfl⟩
          have hX := HX.out
          rw [hw4] at hX ⊢
          clear HX
          obtain ⟨hA4, hF4⟩ := hX
          have hlen4 : (st.may.upd i ⟨(st.file i).b.take m, (st.may.file i).safe⟩).files.length = st.files.length := by simp [St.upd, St.may]
          have hfi4 : (st.may.upd i ⟨(st.file i).b.take m, (st.may.file i).safe⟩).file i = ⟨(st.file i).b.take m, (st.file i).safe⟩ := by rw [file_upd_same (show i < st.may.files.length from HI.out)]; rfl
          obtain ⟨g', cap', ra', rcap', hfv', hrv', l1, l2, m1, m2, t0, t1, t2, y1, y2⟩ := RAt.fileAt hA4.drew (i := i) (by rw [hlen4]; exact HI.out)
          rw [hlen4] at hfv' t0
          rw [hfi4] at t2
          have hfv2 : R.fv = _ := hfv'
          rw [HFV.out] at hfv2
          cases hfv2
          have s0 : w4.cell? ⟨b, 1, none⟩ = some (.slice (some ⟨g, 0, none⟩) st.files.length cap) := t0
          have s2 : w4.cell? ⟨g, i * 2 + 1, none⟩ = some (.int .i64 ((st.file i).safe : Nat)) := t2
          have hmin : min ((st.file i).safe : Int) m = ((min (st.file i).safe m : Nat) : Int) := by omega
          have HMIN := Aside0.mk hmin
          have HA4 := Aside0.mk hA4
          have HF4 := Aside0.mk hF4
          have HH4 := Aside0.mk hfi4
          have HL4 := Aside0.mk hlen4
          clear hA4 hF4 hfi4 hlen4 hfv' hrv' l1 l2 m1 m2 t1 hmin k0 k1 k2 z1 z2 q0 q1 p0 p1 p2 hw4
          go_wp2_with (fail)
          go_still_tail 17, (by kernel_rfl)
          change wpList _ _ _ _ _ w4.drew
          obtain ⟨w5, hw5⟩ : ∃ w5, w4.drew = w5 := ⟨_, rfl⟩
          rw [hw5] at t0 t2 y1 y2 ⊢
          clear s0 s2
          have HW5 := Aside0.mk hw5
          clear hw5
          go_wp2_with (fail)
          all_goals
            go_ret
            have hd : Below w4.heap.size w4 w5 := by rw [← HW5.out]; exact (Below.refl _ _).drew
            have hfin := HA4.out.setS (i := i) (by rw [HL4.out]; exact HI.out) (g := g) (by show R.fv.ownBlock = _; rw [HFV.out]; rfl) hd (min (st.file i).safe m)
            rw [HH4.out, upd_upd] at hfin
            refine ⟨rfl, rnx_fr ((Fr.of_but HB.out H.out.fpb).trans (Fr.of_below (fp := fp) HB2.out) (fun _ _ h => h)) (rnx_trans HF4.out ?_)⟩
            first
            | (have e : min (st.file i).safe m = (st.file i).safe := by omega
               rw [e] at hfin ⊢; exact rnx_of hfin)
            | (have e : min (st.file i).safe m = m := by omega
               rw [e] at hfin ⊢; exact rnx_of hfin)
end
end Go.Proofs.Ytcaipccgphblnaa.Dk
