/- disk: the document's Free. -/
import Derived.Test.YtcaipccgphblnaaRefDir
namespace Go.Proofs.Ytcaipccgphblnaa.Dk
open Go.RowKit Go.WideMaps Go.Proofs.YtcaipccgphblnaaW.PrintWords
set_option linter.unusedSimpArgs false
/-- Is a file said by some link? -/
def anyAt (l : Lk) (i : Nat) : Bool := l.any fun p => p.2 == i
def usedB (st : St) (i : Nat) : Bool := anyAt st.dir i || anyAt st.safe i
theorem usedB_iff {st : St} {i : Nat} : usedB st i = true ↔ st.used i := by
  unfold usedB anyAt St.used
  rw [Bool.or_eq_true, List.any_eq_true, List.any_eq_true]
  simp only [beq_iff_eq, List.mem_map]
/-- The bytes of the files in use, of the first k. -/
def usedSum (st : St) (k : Nat) : Nat := ((List.range k).map fun i => if usedB st i then st.len i else 0).sum
theorem usedSum_succ (st : St) (k : Nat) : usedSum st (k + 1) = usedSum st k + if usedB st k then st.len k else 0 := by
  simp [usedSum, List.range_succ]
theorem usedSum_all {st : St} (hw : Wf st) : usedSum st st.files.length = sumL st st.all := by
  have h1 : ∀ l : List Nat, (l.map fun i => if usedB st i then st.len i else 0).sum = ((l.filter (usedB st)).map st.len).sum := fun l => by
    induction l with
    | nil => rfl
    | cons x r ih => cases hx : usedB st x <;> simp [hx, ih]
  unfold usedSum sumL
  rw [h1]
  refine List.Perm.sum_nat (List.Perm.map _ ((List.perm_ext_iff_of_nodup (List.nodup_range.filter _) (nodup_all hw.dir.ats hw.sdir.ats)).2 fun i => ?_))
  rw [List.mem_filter, List.mem_range, usedB_iff, mem_all]
  exact ⟨fun h => h.2, fun h => ⟨used_lt hw h, h⟩⟩
theorem anyAt_take_succ {l : Lk} {i k : Nat} (h : k < l.length) : anyAt (l.take (k + 1)) i = (anyAt (l.take k) i || (l[k].2 == i)) := by
  unfold anyAt
  rw [List.take_succ_eq_append_getElem h, List.any_append]
  simp
section
variable {R : RLay} {st : St} {fp : Nat → Prop} {b : Nat} {w : World}
set_option maxRecDepth 100000 in
set_option maxHeartbeats 2000000 in
theorem ref_free (h : RAt R st fp b w) (hw : Wf st) (hl : st.dir.length ≤ 1000000) (hsl : st.safe.length ≤ 1000000) (hfl : st.files.length ≤ 1000000) :
    Calls Try.prog 20 #[.pointer (some ⟨b, 0, none⟩)] w fun e w' => e = .returned (.int .i64 st.free) ∧ Below w.heap.size w w' := by
  have HA := Aside0.mk h
  have HW := Aside0.mk hw
  have HL := Aside0.mk (show st.dir.length ≤ 9223372036854775807 by omega)
  have HSL := Aside0.mk (show st.safe.length ≤ 9223372036854775807 by omega)
  have hm : st.files.length ≤ 9223372036854775807 := by omega
  obtain ⟨fa, fcap, hfv, _, _⟩ := h.files.form
  rw [filed_length _ _ h.len] at hfv
  have c0 : w.cell? ⟨b, 0, none⟩ = some (.int .i64 st.room) := by simp [World.cell?, h.cells, RCells]
  have c1 : w.cell? ⟨b, 1, none⟩ = some (.slice fa st.files.length fcap) := by rw [← hfv]; simp [World.cell?, h.cells, RCells]
  have HFV := Aside0.mk hfv
  clear h hw hl hsl hfl hfv
  go_enter Try.func20, Try.ntmps20
  go_wp2_with (fail)
  go_loopw [3, 20] (fun v ix wr => ∃ k : Nat, k ≤ st.files.length ∧ ix = .int .i64 k ∧ v = .int .i64 (wrap64 (st.room - (usedSum st k : Nat))) ∧ Below w.heap.size w wr)
    (fun _ ix _ => st.files.length - (intOf ix).toNat)
  case atStart =>
    have hr := HW.out.room
    refine ⟨0, Nat.zero_le _, rfl, ?_, Below.refl _ _⟩
    have : wrap64 (st.room - ((usedSum st 0 : Nat) : Int)) = st.room := by
      have e : usedSum st 0 = 0 := rfl
      rw [e]; unfold wrap64; omega
    rw [this]
  case round =>
    obtain ⟨k, hk, rfl, rfl, hB⟩ := hrel
    obtain ⟨wx, rfl⟩ : ∃ wx : World, wx = wr := ⟨_, rfl⟩
    by_cases hlt : k < st.files.length
    · have hA := HA.out.below hB
      obtain ⟨g, cap', cur, hv, _, q0x, q1, _, _, _, _⟩ := hA.files.at (filed_get hA.len hlt)
      rw [filed_length _ _ hA.len, HFV.out] at hv
      cases hv
      obtain ⟨ra, rcap, hrv, _, _⟩ := (hA.row k hlt).form
      have q0 : wx.cell? ⟨g, k * 2, none⟩ = some (.slice ra (st.file k).b.length rcap) := by rw [← hrv]; exact q0x
      clear q0x
      obtain ⟨sk, hsk⟩ : ∃ s : Int, (((st.files[k]?).getD ⟨[], 0⟩).safe : Int) = s := ⟨_, rfl⟩
      rw [hsk] at q1
      obtain ⟨da, dcap, hdv, _, _⟩ := hA.dir.form
      obtain ⟨sa, scap, hsv, _, _⟩ := hA.sdir.form
      rw [links_length] at hdv hsv
      have c2 : wx.cell? ⟨b, 2, none⟩ = some (.slice da st.dir.length dcap) := by rw [← hdv]; simp [World.cell?, hA.cells, RCells]
      have HDV := Aside0.mk hdv
      have HSV := Aside0.mk hsv
      have HB := Aside0.mk hB
      have c2' : (wx.alloc (.cells #[.slice ra (st.file k).b.length rcap, .int .i64 sk] 87)).cell? ⟨b, 2, none⟩ = some (.slice da st.dir.length dcap) := (World.cell?_of_block (Below.heap_alloc _ _ _ hA.lt_b)).trans c2
      obtain ⟨wo, hwo⟩ : ∃ wo, wx.alloc (.cells #[.slice ra (st.file k).b.length rcap, .int .i64 sk] 87) = wo := ⟨_, rfl⟩
      have hbo : Below wx.heap.size wx wo := by rw [← hwo]; exact (Below.refl _ _).alloc (Nat.le_refl _) _
      have hfo : wo.heap[wx.heap.size]? = some (.cells #[.slice ra (st.file k).b.length rcap, .int .i64 sk] 87) := by rw [← hwo]; exact heap_alloc_new wx _
      have hso : wx.heap.size < wo.heap.size := by rw [← hwo]; simp
      have HAO := Aside0.mk (hA.below hbo)
      have HBO := Aside0.mk (HB.out.trans (hbo.mono HB.out.size))
      have HFO := Aside0.mk hfo
      have HSO := Aside0.mk hso
      have hm1 := HL.out
      have hm2 := HSL.out
      have HWO := Aside0.mk hwo
      clear hA hB hsk hrv hdv hsv hbo hfo hso hwo
      go_wp2_with (fail)
      rw [HWO.out]
      clear HWO c2'
      go_loopw [6, 30] (fun u ix wq => ∃ m : Nat, m ≤ st.dir.length ∧ ix = .int .i64 m ∧ u = .bool (anyAt (st.dir.take m) k) ∧ Below wo.heap.size wo wq)
        (fun _ ix _ => st.dir.length - (intOf ix).toNat)
      case atStart => exact ⟨0, Nat.zero_le _, rfl, by simp [anyAt], Below.refl _ _⟩
      case round =>
        obtain ⟨m, hm', rfl, rfl, hBq⟩ := hrel
        by_cases hlm : m < st.dir.length
        · obtain ⟨g2, cap2, cur2, hv2, _, r0, r1, _, _, _, _⟩ := ((HAO.out.below hBq).dir).at (links_get (List.getElem?_eq_getElem hlm))
          rw [links_length, HDV.out] at hv2
          cases hv2
          have hnext := anyAt_take_succ (i := k) hlm
          obtain ⟨u0, hu0⟩ : ∃ u0, (anyAt (st.dir.take m) k) = u0 := ⟨_, rfl⟩
          rw [hu0]
          have HU := Aside0.mk hu0
          have HNX := Aside0.mk hnext
          have HBQ := Aside0.mk hBq
          obtain ⟨z, hz⟩ : ∃ z : Nat, st.dir[m].2 = z := ⟨_, rfl⟩
          rw [hz] at r1
          have HZ := Aside0.mk hz
          clear hnext hu0 hBq hz
          cases u0 with
          | true =>
            go_wp2_with (fail)
            refine ⟨⟨m + 1, by omega, by go_num, ?_, HBQ.out.trans ((Below.refl _ _).alloc HBQ.out.size _)⟩, by simp [intOf]; omega⟩
            rw [HNX.out, HU.out]; rfl
          | false =>
            by_cases ez : z = k
            · have e1 : ((z : Int) == (k : Int)) = true := by simp [ez]
              have HEZ := Aside0.mk ez
              clear ez
              go_wp2_with (fail)
              refine ⟨⟨m + 1, by omega, by go_num, ?_, HBQ.out.trans ((Below.refl _ _).alloc HBQ.out.size _)⟩, by simp [intOf]; omega⟩
              rw [HNX.out, HU.out, HZ.out, HEZ.out]; simp
            · have e1 : ((z : Int) == (k : Int)) = false := by simp; omega
              have HEZ := Aside0.mk ez
              clear ez
              go_wp2_with (fail)
              refine ⟨⟨m + 1, by omega, by go_num, ?_, HBQ.out.trans ((Below.refl _ _).alloc HBQ.out.size _)⟩, by simp [intOf]; omega⟩
              have e2 : (z == k) = false := by simpa using HEZ.out
              rw [HNX.out, HU.out, HZ.out, e2]; rfl
        · have hme : m = st.dir.length := by omega
          rw [hme, List.take_length]
          clear hlm hm' hme
          obtain ⟨wp, rfl⟩ : ∃ wp : World, wp = wr := ⟨_, rfl⟩
          have hAq := HAO.out.below hBq
          have c4 : wp.cell? ⟨b, 3, none⟩ = some (.slice sa st.safe.length scap) := by rw [← HSV.out]; simp [World.cell?, hAq.cells, RCells]
          have HAP := Aside0.mk hAq
          have HBP := Aside0.mk (HBO.out.trans (hBq.mono HBO.out.size))
          have HFP := Aside0.mk ((hBq.block _ HSO.out).trans HFO.out)
          obtain ⟨u1, hu1⟩ : ∃ u1, anyAt st.dir k = u1 := ⟨_, rfl⟩
          rw [hu1]
          have HU1 := Aside0.mk hu1
          clear hAq hBq hu1
          go_wp2_with (fail)
          go_loopw [6, 47] (fun u ix wq => ∃ m : Nat, m ≤ st.safe.length ∧ ix = .int .i64 m ∧ u = .bool (u1 || anyAt (st.safe.take m) k) ∧ Below wp.heap.size wp wq)
            (fun _ ix _ => st.safe.length - (intOf ix).toNat)
          case atStart => exact ⟨0, Nat.zero_le _, rfl, by simp [anyAt], Below.refl _ _⟩
          case round =>
            obtain ⟨m, hm', rfl, rfl, hBq⟩ := hrel
            by_cases hlm : m < st.safe.length
            · obtain ⟨g2, cap2, cur2, hv2, _, r0, r1, _, _, _, _⟩ := ((HAP.out.below hBq).sdir).at (links_get (List.getElem?_eq_getElem hlm))
              rw [links_length, HSV.out] at hv2
              cases hv2
              have hnext := anyAt_take_succ (i := k) hlm
              obtain ⟨u0, hu0⟩ : ∃ u0, (u1 || anyAt (st.safe.take m) k) = u0 := ⟨_, rfl⟩
              rw [hu0]
              have HU := Aside0.mk hu0
              have HNX := Aside0.mk hnext
              have HBQ := Aside0.mk hBq
              obtain ⟨z, hz⟩ : ∃ z : Nat, st.safe[m].2 = z := ⟨_, rfl⟩
              rw [hz] at r1
              have HZ := Aside0.mk hz
              clear hnext hu0 hBq hz
              cases u0 with
              | true =>
                go_wp2_with (fail)
                refine ⟨⟨m + 1, by omega, by go_num, ?_, HBQ.out.trans ((Below.refl _ _).alloc HBQ.out.size _)⟩, by simp [intOf]; omega⟩
                rw [HNX.out, ← Bool.or_assoc, HU.out]; rfl
              | false =>
                by_cases ez : z = k
                · have e1 : ((z : Int) == (k : Int)) = true := by simp [ez]
                  have HEZ := Aside0.mk ez
                  clear ez
                  go_wp2_with (fail)
                  refine ⟨⟨m + 1, by omega, by go_num, ?_, HBQ.out.trans ((Below.refl _ _).alloc HBQ.out.size _)⟩, by simp [intOf]; omega⟩
                  rw [HNX.out, ← Bool.or_assoc, HU.out, HZ.out, HEZ.out]; simp
                · have e1 : ((z : Int) == (k : Int)) = false := by simp; omega
                  have HEZ := Aside0.mk ez
                  clear ez
                  go_wp2_with (fail)
                  refine ⟨⟨m + 1, by omega, by go_num, ?_, HBQ.out.trans ((Below.refl _ _).alloc HBQ.out.size _)⟩, by simp [intOf]; omega⟩
                  have e2 : (z == k) = false := by simpa using HEZ.out
                  rw [HNX.out, ← Bool.or_assoc, HU.out, HZ.out, e2]; rfl
            · have hme : m = st.safe.length := by omega
              rw [hme, List.take_length]
              clear hlm hm' hme
              have HB3 := Aside0.mk (HBP.out.trans (hBq.mono HBP.out.size))
              have hf3 : wr.heap[wx.heap.size]? = some (.cells #[.slice ra (st.file k).b.length rcap, .int .i64 sk] 87) := (hBq.block _ (Array.getElem?_eq_some_iff.1 HFP.out).1).trans HFP.out
              have k0 : wr.cell? ⟨wx.heap.size, 0, none⟩ = some (.slice ra (st.file k).b.length rcap) := by simp [World.cell?, hf3]
              clear hBq hf3
              have HS := Aside0.mk (usedSum_succ st k)
              obtain ⟨u2, hu2⟩ : ∃ u2, (u1 || anyAt st.safe k) = u2 := ⟨_, rfl⟩
              rw [hu2]
              have HU2 : Aside0 (usedB st k = u2) := Aside0.mk (by unfold usedB; rw [HU1.out, hu2])
              clear hu2
              cases u2 with
              | true =>
                go_wp2_with (fail)
                refine ⟨⟨k + 1, by omega, by go_num, ?_, HB3.out⟩, by simp [intOf]; omega⟩
                refine congrArg (Value.int .i64) ?_
                first | rw [wrap_sub] | skip
                rw [HS.out, HU2.out, if_pos rfl]
                congr 1
                unfold St.len
                omega
              | false =>
                go_wp2_with (fail)
                refine ⟨⟨k + 1, by omega, by go_num, ?_, HB3.out⟩, by simp [intOf]; omega⟩
                refine congrArg (Value.int .i64) ?_
                rw [HS.out, HU2.out]
                simp
    · have : k = st.files.length := by omega
      subst this
      have HB := Aside0.mk hB
      clear hB
      go_wp2_with (fail)
      go_ret
      refine ⟨?_, HB.out⟩
      have h1 := HW.out.room
      have h2 := HW.out.free
      have h3 := usedSum_all HW.out
      refine congrArg (fun z => Ending.returned (Value.int .i64 z)) ?_
      show wrap64 (st.room - ((usedSum st st.files.length : Nat) : Int)) = _
      rw [h3]
      rw [free_eq] at h2 ⊢
      unfold wrap64
      omega
end
end Go.Proofs.Ytcaipccgphblnaa.Dk
