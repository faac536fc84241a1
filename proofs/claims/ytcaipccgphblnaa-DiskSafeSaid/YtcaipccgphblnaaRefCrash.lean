/- disk: the document's Crash. -/
import Derived.Test.YtcaipccgphblnaaRefWrite
namespace Go.Proofs.Ytcaipccgphblnaa.Dk
open Go.RowKit Go.WideMaps Go.Proofs.YtcaipccgphblnaaW.PrintWords
set_option linter.unusedSimpArgs false
/-- The first k files are as a crash leaves them. -/
def St.crashTo (st : St) (keep : Int) (k : Nat) : St := { st with files := (st.files.take k).map (crashF keep) ++ st.files.drop k }
theorem crashTo_zero (st : St) (keep : Int) : st.crashTo keep 0 = st := by simp [St.crashTo]
theorem crashTo_length (st : St) (keep : Int) (k : Nat) : (st.crashTo keep k).files.length = st.files.length := by
  simp [St.crashTo]; omega
theorem crashTo_file {st : St} {keep : Int} {k : Nat} (hk : k < st.files.length) : (st.crashTo keep k).file k = st.file k := by
  have h1 : ((st.files.take k).map (crashF keep)).length = k := by simp; omega
  unfold St.crashTo St.file
  rw [List.getElem?_append_right (by rw [h1]; exact Nat.le_refl _), h1, Nat.sub_self, List.getElem?_drop, Nat.add_zero]
theorem crashTo_succ {st : St} {keep : Int} {k : Nat} (hk : k < st.files.length) : (st.crashTo keep k).upd k (crashF keep (st.file k)) = st.crashTo keep (k + 1) := by
  have h1 : ((st.files.take k).map (crashF keep)).length = k := by simp; omega
  have h2 : st.file k = st.files[k] := by simp [St.file, hk]
  unfold St.crashTo St.upd
  simp only
  rw [List.set_append_right k _ (by rw [h1]; exact Nat.le_refl _), h1, Nat.sub_self, List.drop_eq_getElem_cons hk, List.set_cons_zero, List.take_succ_eq_append_getElem hk, List.map_append, h2]
  simp
theorem crashTo_all (st : St) (keep : Int) : { st.crashTo keep st.files.length with dir := st.safe, failing := false, torn := false } = st.crash keep := by
  simp [St.crashTo, St.crash]
theorem BRow.cut {w : World} {a : Option Addr} {cap : Nat} {xs : Bs} (h : BRow w (.slice a xs.length cap) xs) {n : Nat} (hn : n ≤ xs.length) : BRow w (.slice a n cap) (xs.take n) := by
  have hl : (xs.take n).length = n := by rw [List.length_take, Nat.min_eq_left hn]
  refine ⟨by simp, ?_⟩
  rcases h.2 with ⟨hv, h0⟩ | ⟨g, cap', cur, hv, h1, hg, h2, h3, h4, h5⟩
  · simp only [Value.slice.injEq] at hv
    obtain ⟨rfl, hx, rfl⟩ := hv
    have : n = 0 := by omega
    subst this
    exact .inl ⟨rfl, by rw [hl]⟩
  · cases hv
    refine .inr ⟨g, cap, cur, by rw [hl], h1, hg, by rw [hl]; omega, h3, h4, ?_⟩
    rw [hl, List.map_take, ← h5, List.take_take, Nat.mul_one, Nat.mul_one, Nat.min_eq_left hn]
section
variable {R : RLay} {st : St} {fp : Nat → Prop} {b : Nat} {w : World}
/-- The file at k has been cut to what stays. -/
theorem crash_file {keep : Int} {k : Nat} (h : RAt R (st.crashTo keep k) fp b w) (hk : k < st.files.length) {g : Nat} (hg : R.fv.ownBlock = some g) {ra : Option Addr} {rcap n : Nat} (hrv : R.v k = .slice ra (st.file k).b.length rcap) (hn : crashF keep (st.file k) = ⟨(st.file k).b.take n, n⟩) (hl : n ≤ (st.file k).b.length) {wd w1 w2 : World}
    (hd : Below w.heap.size w wd) (hds : wd.heap.size = w.heap.size) (e1 : w1 = wd.setCell ⟨g, k * 2, none⟩ (.slice ra n rcap)) (e2 : w2 = w1.setCell ⟨g, k * 2 + 1, none⟩ (.int .i64 (n : Nat))) :
    ∃ R', RAt R' (st.crashTo keep (k + 1)) fp b w2 ∧ R'.fv = R.fv ∧ Fr fp w w2 ∧ w2.heap.size = w.heap.size := by
  have hk' : k < (st.crashTo keep k).files.length := by rw [crashTo_length]; exact hk
  have hf := crashTo_file (keep := keep) hk
  have hrow := h.row k hk'
  rw [hf, hrv] at hrow
  obtain ⟨hA1, hF1⟩ := h.setB (i := k) hk' hg (v' := .slice ra n rcap) (bs := (st.file k).b.take n) (grown_of_below hd _) ((hrow.cut hl).heap fun q hq => hd.block q (BRow.lt hrow (by cases ra <;> exact hq))) (.inl (by rw [hrv]; cases ra <;> rfl))
  rw [← e1] at hA1 hF1
  have hs1 : w1.heap.size = w.heap.size := by rw [e1]; simp [hds]
  have hs2 : w2.heap.size = w.heap.size := by rw [e2]; simp [hs1]
  obtain ⟨hA2, hF2⟩ := hA1.setS (i := k) (by simpa [St.upd] using hk') hg (Below.refl w1.heap.size w1) n
  rw [← e2, upd_upd, file_upd_same hk', show (⟨(⟨(st.file k).b.take n, ((st.crashTo keep k).file k).safe⟩ : F).b, n⟩ : F) = crashF keep (st.file k) from hn.symm, crashTo_succ hk] at hA2
  rw [← e2] at hF2
  refine ⟨_, hA2.mono (fun q hq => ?_) (fun q hq => by rw [hs2]; exact h.fpl q hq), rfl, hF1.trans hF2 (fun q hq hq' => ?_), hs2⟩
  · rcases hq with hq | hq
    · rcases hq with hq | hq
      · exact hq
      · omega
    · omega
  · exact hq'.elim id (fun e => by omega)
/-- How much of a file stays, as the code reckons it. -/
theorem crash_n {keep : Int} {f : F} (hk : 0 < keep) (hs : f.safe ≤ f.b.length) (hl : f.b.length ≤ 140737488355328) :
    ∃ n : Nat, (if IntKind.i64.wrap ((f.safe : Int) + if (f.b.length : Int) < keep then (f.b.length : Int) else keep) < (f.b.length : Int) then IntKind.i64.wrap ((f.safe : Int) + if (f.b.length : Int) < keep then (f.b.length : Int) else keep) else (f.b.length : Int)) = (n : Int) ∧ crashF keep f = ⟨f.b.take n, n⟩ ∧ n ≤ f.b.length := by
  refine ⟨(crashF keep f).safe, ?_, rfl, crashF_le hs⟩
  have h1 := crashF_int hs hk
  have hw : IntKind.i64.wrap ((f.safe : Int) + if (f.b.length : Int) < keep then (f.b.length : Int) else keep) = (f.safe : Int) + if (f.b.length : Int) < keep then (f.b.length : Int) else keep := by
    rw [IntKind.wrap_i64]
    split <;> omega
  rw [hw, h1]
  split <;> split <;> omega
set_option maxRecDepth 100000 in
set_option maxHeartbeats 1000000 in
theorem ref_crash_pos (h : RAt R st fp b w) (hw : Wf st) (keep : Int) (hk : 0 < keep) (hsl : st.safe.length ≤ 1000000) (hfl : st.files.length ≤ 1000000) (hle : ∀ i, i < st.files.length → st.len i ≤ 140737488355328) :
    Calls Try.prog 41 #[.pointer (some ⟨b, 0, none⟩), .int .i64 keep] w fun e w' => e = .returned (.tuple #[]) ∧ RNx (st.crash keep) fp b w w' := by
  obtain ⟨fa, fcap, hfv, _, _⟩ := h.files.form
  rw [filed_length _ _ h.len] at hfv
  have c1 : w.cell? ⟨b, 1, none⟩ = some (.slice fa st.files.length fcap) := by rw [← hfv]; simp [World.cell?, h.cells, RCells]
  have HFV := Aside0.mk hfv
  have HA := Aside0.mk h
  have HW := Aside0.mk hw
  have HSL := Aside0.mk hsl
  have HLE := Aside0.mk hle
  have hm : st.files.length ≤ 9223372036854775807 := by omega
  have d0 : decide (0 < keep) = true := by simp [hk]
  clear h hw hsl hfl hle hfv
  go_enter Try.func41, Try.ntmps41
  go_wp2_with (fail)
  go_loopw [4, 5, 11] (fun _ _ ix wr => ∃ (k : Nat) (R' : RLay), k ≤ st.files.length ∧ ix = .int .i64 k ∧ RAt R' (st.crashTo keep k) fp b wr ∧ R'.fv = R.fv ∧ Fr fp w wr ∧ wr.heap.size = w.heap.size)
    (fun _ _ ix _ => st.files.length - (intOf ix).toNat)
  case atStart => exact ⟨0, R, Nat.zero_le _, rfl, by rw [crashTo_zero]; exact HA.out, rfl, Fr.of_below (Below.refl _ _), rfl⟩
  case round =>
    obtain ⟨k, R', hk', rfl, hA, hv, hF, hs⟩ := hrel
    obtain ⟨wx, rfl⟩ : ∃ wx : World, wx = wr := ⟨_, rfl⟩
    by_cases hlt : k < st.files.length
    · obtain ⟨g, cap, ra, rcap, hfv, hrv, l1, l2, m1, m2, k0, k1, k2, z1, z2⟩ := RAt.fileAt hA (i := k) (by rw [crashTo_length]; exact hlt)
      rw [crashTo_length] at hfv k0
      rw [crashTo_file hlt] at hrv m1 k1 k2
      have i1 : (k : Int) < st.files.length := by omega
      obtain ⟨n, hn, hcf, hnl⟩ := crash_n (keep := keep) hk (HW.out.safe k) (HLE.out k hlt)
      go_wp2_with (fail)
      go_still (by kernel_rfl)
      change Exit.then _ _ _ _ wx.drew
      obtain ⟨wy, hwy⟩ : ∃ wy, wx.drew = wy := ⟨_, rfl⟩
      obtain ⟨mm, hmm⟩ : ∃ mm : Int, (if ((st.file k).b.length : Int) < keep then ((st.file k).b.length : Int) else keep) = mm := ⟨_, rfl⟩
      rw [hmm, hwy]
      clear hmm
      have k0 : wy.cell? ⟨b, 1, none⟩ = some (.slice (some ⟨g, 0, none⟩) st.files.length cap) := by rw [← hwy]; exact k0
      have k1 : wy.cell? ⟨g, k * 2, none⟩ = some (.slice ra (st.file k).b.length rcap) := by rw [← hwy]; exact k1
      have k2 : wy.cell? ⟨g, k * 2 + 1, none⟩ = some (.int .i64 ((st.file k).safe : Nat)) := by rw [← hwy]; exact k2
      have z1 : wy.frozen? ⟨g, k * 2, none⟩ = false := by rw [← hwy]; exact z1
      have z2 : wy.frozen? ⟨g, k * 2 + 1, none⟩ = false := by rw [← hwy]; exact z2
      have i2 : (n : Int) ≤ rcap := by omega
      have i3 : (n : Int) ≤ (st.file k).b.length := by omega
      have HA2 := Aside0.mk hA
      have HX := Aside0.mk (And.intro hF (And.intro hs hv))
      have HWY := Aside0.mk hwy
      have HM2 := Aside0.mk m2
      have HRV := Aside0.mk hrv
      have HFV2 := Aside0.mk hfv
      have HCF := Aside0.mk hcf
      have HNL := Aside0.mk hnl
      clear hA hF hs hv hwy m2 hrv hfv hcf hnl m1 l1 l2 hn
      go_wp2_with (fail)
      go_still_tail 17, (by kernel_rfl)
      change wpList _ _ _ _ _ wy.drew
      go_wp2_with (fail)
      obtain ⟨R2, hA2, hv2, hF2, hs2⟩ := crash_file HA2.out hlt (g := g) (by rw [HFV2.out]; rfl) HRV.out HCF.out HNL.out (wd := wy) (by rw [← HWY.out]; exact (Below.refl _ _).drew) (by rw [← HWY.out]; rfl) rfl rfl
      have hF3 := HX.out.1.trans hF2 (fun _ _ h => h)
      exact ⟨⟨k + 1, R2, by omega, by go_num, hA2.drew, hv2.trans HX.out.2.2, ⟨hF3.os, hF3.tape, hF3.output, hF3.size, hF3.block⟩, hs2.trans HX.out.2.1⟩, by simp [intOf]; omega⟩
    · have hke : k = st.files.length := by omega
      subst hke
      have c3 : wx.cell? ⟨b, 3, none⟩ = some R'.sv := by simp [World.cell?, hA.cells, RCells]
      have c3' : (wx.alloc (.cells #[] 53)).cell? ⟨b, 3, none⟩ = some R'.sv := (World.cell?_of_block (Below.heap_alloc _ _ _ hA.lt_b)).trans c3
      have HA2 := Aside0.mk hA
      have HX := Aside0.mk (And.intro hF hs)
      clear hA hF hs hv
      go_wp2_with (at_builtin; refine wpList_append_links _ rfl _ _ rfl R'.sv st.safe rfl rfl HA2.out.sdir HSL.out ?_; intro la cap w2 hr hv hb2; have hA2 := HA2.out.below hb2; have c4 : w2.cell? ⟨b, 2, none⟩ = some R'.dv := (by simp [World.cell?, hA2.cells, RCells]); have f4 : w2.frozen? ⟨b, 2, none⟩ = false := (by simp [World.frozen?, hA2.cells, RCells]); have c5 : w2.cell? ⟨b, 4, none⟩ = some (.bool st.failing) := (by simp [World.cell?, hA2.cells, RCells, St.crashTo]); have f5 : w2.frozen? ⟨b, 4, none⟩ = false := (by simp [World.frozen?, hA2.cells, RCells]); have c6 : w2.cell? ⟨b, 6, none⟩ = some (.bool st.torn) := (by simp [World.cell?, hA2.cells, RCells, St.crashTo]); have f6 : w2.frozen? ⟨b, 6, none⟩ = false := (by simp [World.frozen?, hA2.cells, RCells]); have HX2 := Aside0.mk (HA2.out.newDir hb2 hr hv); have HC2 := Aside0.mk hA2.cells; clear hr hv hb2 hA2)
      go_end0
      obtain ⟨hA3, hF3⟩ := HX2.out
      have hb4 := (((But.refl b (w2.setCell ⟨b, 2, none⟩ (.slice la (links st.safe).length cap))).setCell 4 (.bool false)).setCell 6 (.bool false))
      have hA4 := hA3.turn (f' := false) (l' := st.left) (t' := false) hb4 (by
        simp [World.setCell, Array.getElem?_modify, HC2.out, RCells, St.crashTo])
      obtain ⟨R4, hA5⟩ : ∃ R4, RAt R4 _ _ b _ := ⟨_, hA4.nf (Nat.le_of_eq hb4.size.symm) hA3.fpl⟩
      exact ⟨rfl, rnx_fr HX.out.1 (rnx_trans hF3 ⟨⟨R4, by rw [← crashTo_all st keep]; exact hA5⟩, Fr.of_but hb4 (.inl HA2.out.fpb)⟩)⟩
set_option maxRecDepth 100000 in
set_option maxHeartbeats 1000000 in
theorem ref_crash_neg (h : RAt R st fp b w) (hw : Wf st) (keep : Int) (hk : ¬ 0 < keep) (hsl : st.safe.length ≤ 1000000) (hfl : st.files.length ≤ 1000000) (hle : ∀ i, i < st.files.length → st.len i ≤ 140737488355328) :
    Calls Try.prog 41 #[.pointer (some ⟨b, 0, none⟩), .int .i64 keep] w fun e w' => e = .returned (.tuple #[]) ∧ RNx (st.crash keep) fp b w w' := by
  obtain ⟨fa, fcap, hfv, _, _⟩ := h.files.form
  rw [filed_length _ _ h.len] at hfv
  have c1 : w.cell? ⟨b, 1, none⟩ = some (.slice fa st.files.length fcap) := by rw [← hfv]; simp [World.cell?, h.cells, RCells]
  have HFV := Aside0.mk hfv
  have HA := Aside0.mk h
  have HW := Aside0.mk hw
  have HSL := Aside0.mk hsl
  have HLE := Aside0.mk hle
  have hm : st.files.length ≤ 9223372036854775807 := by omega
  have d0 : decide (0 < keep) = false := by simp [hk]
  clear h hw hsl hfl hle hfv
  go_enter Try.func41, Try.ntmps41
  go_wp2_with (fail)
  go_loopw [4, 5, 11] (fun _ _ ix wr => ∃ (k : Nat) (R' : RLay), k ≤ st.files.length ∧ ix = .int .i64 k ∧ RAt R' (st.crashTo keep k) fp b wr ∧ R'.fv = R.fv ∧ Fr fp w wr ∧ wr.heap.size = w.heap.size)
    (fun _ _ ix _ => st.files.length - (intOf ix).toNat)
  case atStart => exact ⟨0, R, Nat.zero_le _, rfl, by rw [crashTo_zero]; exact HA.out, rfl, Fr.of_below (Below.refl _ _), rfl⟩
  case round =>
    obtain ⟨k, R', hk', rfl, hA, hv, hF, hs⟩ := hrel
    obtain ⟨wx, rfl⟩ : ∃ wx : World, wx = wr := ⟨_, rfl⟩
    by_cases hlt : k < st.files.length
    · obtain ⟨g, cap, ra, rcap, hfv, hrv, l1, l2, m1, m2, k0, k1, k2, z1, z2⟩ := RAt.fileAt hA (i := k) (by rw [crashTo_length]; exact hlt)
      rw [crashTo_length] at hfv k0
      rw [crashTo_file hlt] at hrv m1 k1 k2
      have i1 : (k : Int) < st.files.length := by omega
      obtain ⟨n, hn⟩ : ∃ n, (st.file k).safe = n := ⟨_, rfl⟩
      have hcf : crashF keep (st.file k) = ⟨(st.file k).b.take n, n⟩ := by unfold crashF; rw [if_neg (by omega), hn]
      have hnl : n ≤ (st.file k).b.length := by rw [← hn]; exact HW.out.safe k
      rw [hn] at k2
      have i2 : (n : Int) ≤ rcap := by omega
      have i3 : (n : Int) ≤ (st.file k).b.length := by omega
      have HA2 := Aside0.mk hA
      have HX := Aside0.mk (And.intro hF (And.intro hs hv))
      have HM2 := Aside0.mk m2
      have HRV := Aside0.mk hrv
      have HFV2 := Aside0.mk hfv
      have HCF := Aside0.mk hcf
      have HNL := Aside0.mk hnl
      clear hA hF hs hv m2 hrv hfv hcf hnl m1 l1 l2 hn
      go_wp2_with (fail)
      go_still_tail 17, (by kernel_rfl)
      change wpList _ _ _ _ _ wx.drew
      go_wp2_with (fail)
      obtain ⟨R2, hA2, hv2, hF2, hs2⟩ := crash_file HA2.out hlt (g := g) (by rw [HFV2.out]; rfl) HRV.out HCF.out HNL.out (wd := wx) (Below.refl _ _) rfl rfl rfl
      have hF3 := HX.out.1.trans hF2 (fun _ _ h => h)
      exact ⟨⟨k + 1, R2, by omega, by go_num, hA2.drew, hv2.trans HX.out.2.2, ⟨hF3.os, hF3.tape, hF3.output, hF3.size, hF3.block⟩, hs2.trans HX.out.2.1⟩, by simp [intOf]; omega⟩
    · have hke : k = st.files.length := by omega
      subst hke
      have c3 : wx.cell? ⟨b, 3, none⟩ = some R'.sv := by simp [World.cell?, hA.cells, RCells]
      have c3' : (wx.alloc (.cells #[] 53)).cell? ⟨b, 3, none⟩ = some R'.sv := (World.cell?_of_block (Below.heap_alloc _ _ _ hA.lt_b)).trans c3
      have HA2 := Aside0.mk hA
      have HX := Aside0.mk (And.intro hF hs)
      clear hA hF hs hv
      go_wp2_with (at_builtin; refine wpList_append_links _ rfl _ _ rfl R'.sv st.safe rfl rfl HA2.out.sdir HSL.out ?_; intro la cap w2 hr hv hb2; have hA2 := HA2.out.below hb2; have c4 : w2.cell? ⟨b, 2, none⟩ = some R'.dv := (by simp [World.cell?, hA2.cells, RCells]); have f4 : w2.frozen? ⟨b, 2, none⟩ = false := (by simp [World.frozen?, hA2.cells, RCells]); have c5 : w2.cell? ⟨b, 4, none⟩ = some (.bool st.failing) := (by simp [World.cell?, hA2.cells, RCells, St.crashTo]); have f5 : w2.frozen? ⟨b, 4, none⟩ = false := (by simp [World.frozen?, hA2.cells, RCells]); have c6 : w2.cell? ⟨b, 6, none⟩ = some (.bool st.torn) := (by simp [World.cell?, hA2.cells, RCells, St.crashTo]); have f6 : w2.frozen? ⟨b, 6, none⟩ = false := (by simp [World.frozen?, hA2.cells, RCells]); have HX2 := Aside0.mk (HA2.out.newDir hb2 hr hv); have HC2 := Aside0.mk hA2.cells; clear hr hv hb2 hA2)
      go_end0
      obtain ⟨hA3, hF3⟩ := HX2.out
      have hb4 := (((But.refl b (w2.setCell ⟨b, 2, none⟩ (.slice la (links st.safe).length cap))).setCell 4 (.bool false)).setCell 6 (.bool false))
      have hA4 := hA3.turn (f' := false) (l' := st.left) (t' := false) hb4 (by
        simp [World.setCell, Array.getElem?_modify, HC2.out, RCells, St.crashTo])
      obtain ⟨R4, hA5⟩ : ∃ R4, RAt R4 _ _ b _ := ⟨_, hA4.nf (Nat.le_of_eq hb4.size.symm) hA3.fpl⟩
      exact ⟨rfl, rnx_fr HX.out.1 (rnx_trans hF3 ⟨⟨R4, by rw [← crashTo_all st keep]; exact hA5⟩, Fr.of_but hb4 (.inl HA2.out.fpb)⟩)⟩
theorem ref_crash (h : RAt R st fp b w) (hw : Wf st) (keep : Int) (hsl : st.safe.length ≤ 1000000) (hfl : st.files.length ≤ 1000000) (hle : ∀ i, i < st.files.length → st.len i ≤ 140737488355328) :
    Calls Try.prog 41 #[.pointer (some ⟨b, 0, none⟩), .int .i64 keep] w fun e w' => e = .returned (.tuple #[]) ∧ RNx (st.crash keep) fp b w w' := by
  by_cases hk : 0 < keep
  · exact ref_crash_pos h hw keep hk hsl hfl hle
  · exact ref_crash_neg h hw keep hk hsl hfl hle
end
end Go.Proofs.Ytcaipccgphblnaa.Dk
