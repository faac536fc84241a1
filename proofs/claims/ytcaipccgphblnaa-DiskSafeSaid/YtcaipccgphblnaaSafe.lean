/- disk: DiskSafe answers true. -/
import Derived.Test.YtcaipccgphblnaaArgs
import Derived.Test.YtcaipccgphblnaaSafeLaw
namespace Go.Proofs.Ytcaipccgphblnaa.Dk
open Go.RowKit Go.WideMaps Go.Proofs.YtcaipccgphblnaaW.PrintWords
set_option linter.unusedSimpArgs false
/-- The document's disk, new. -/
theorem ref_new (w : World) (room : Int) (b : Nat) (h : w.heap[b]? = some (RCells room (.slice none 0 0) (.slice none 0 0) (.slice none 0 0) false 0 false)) : RAt ⟨.slice none 0 0, .slice none 0 0, .slice none 0 0, []⟩ (newSt room) (fun k => k = b) b w :=
  { cells := h
    len := rfl
    files := SRow.nil w 87
    dir := SRow.nil w 53
    sdir := SRow.nil w 53
    row := fun i hi => absurd hi (Nat.not_lt_zero _)
    sep := fun i j hi => absurd hi (Nat.not_lt_zero _)
    dsep := fun g hg => by cases hg
    fpb := rfl
    fpf := fun g hg => by cases hg
    fpd := fun g hg => by cases hg
    fps := fun g hg => by cases hg
    fpr := fun i hi => absurd hi (Nat.not_lt_zero _)
    fpl := fun k hk => by rw [hk]; exact (Array.getElem?_eq_some_iff.1 h).1 }
theorem held_pair {w0 w : World} {st : St} {b b2 : Nat} {room : Int} (h : Held w0 st b w) (hr : 0 ≤ room ∧ room ≤ 9223372036854775807) (hb : w.heap.size ≤ b2) {w' : World} (hw : Below w.heap.size w w') (h2 : w'.heap[b2]? = some (RCells room (.slice none 0 0) (.slice none 0 0) (.slice none 0 0) false 0 false)) :
    Pair (fun k => k < w0.heap.size) st b (newSt room) b2 w' := by
  obtain ⟨L, fp, hA, hf⟩ := h.lies
  have hs := h.below.size
  refine ⟨L, fp, _, _, ⟨hA.below hw, ref_new w' room b2 h2⟩, ⟨fun k hk e => by have := hf k hk; omega, fun k hk e => by omega, fun k hk e => by have := hA.fpl k hk; omega, fun k hk => by have := hw.size; omega⟩, h.wf, wf_new hr⟩
theorem pair_held {w0 w : World} {st st2 : St} {b b2 : Nat} (h : Pair (fun k => k < w0.heap.size) st b st2 b2 w) (hb : Below w0.heap.size w0 w) : Held w0 st b w := by
  obtain ⟨L, fp, R, fp2, hA, ⟨h1, _⟩, h5, _⟩ := h
  exact ⟨⟨L, fp, hA.1, fun k hk => Nat.le_of_not_lt (h1 k hk)⟩, hb, h5⟩
theorem below_kf {w0 w w' : World} (hb : Below w0.heap.size w0 w) (h : Kf (fun k => k < w0.heap.size) w w') : Below w0.heap.size w0 w' :=
  ⟨h.os.trans hb.os, h.tape.trans hb.tape, h.output.trans hb.output, Nat.le_trans hb.size h.size, fun k hk => (h.block k hk).trans (hb.block k hk)⟩
theorem free_below {w0 w : World} {st : St} {b : Nat} (h : Held w0 st b w) (hfew : st.dir.length ≤ 1000000000) : Calls Try.prog 10 #[.pointer (some ⟨b, 0, none⟩)] w fun e w' => e = .returned (.int .i64 st.free) ∧ Below w.heap.size w w' := by
  obtain ⟨L, fp, hA, hf⟩ := h.lies
  exact free_at hA h.wf hfew
set_option maxRecDepth 100000 in
set_option maxHeartbeats 4000000 in
theorem safe_long (aa : Option Addr) (ca : Nat) (vs : Value) (ys : Bs) (os : List Opr) (keep : Int) (w : World) (hb : Src w (.slice aa ys.length ca) ys) (hs : Script w vs os) (h5 : 500 < ys.length) :
    Calls Try.prog 5 #[.slice aa ys.length ca, vs, .int .i64 keep] w fun e w' => e = .returned (.bool true) ∧ Below w.heap.size w w' := by
  obtain ⟨sa, sc, rfl, hl1, hl2, hop⟩ := hs
  obtain ⟨la1, la2⟩ := hb.cap
  have la3 : ca ≤ 9223372036854775807 := la2
  have hsc : os.length ≤ 9223372036854775807 := by unfold maxLen at hl2; omega
  have HSC1 := Aside0.mk hl1
  have HSC2 := Aside0.mk hl2
  have HOP := Aside0.mk hop
  obtain ⟨x, hx⟩ : ∃ x, ys.take 500 = x := ⟨_, rfl⟩
  have hX : Src w (.slice aa 500 ca) x := by rw [← hx]; exact hb.take 500 (by omega)
  have hxl : x.length ≤ 500 := by rw [← hx]; rw [List.length_take]; omega
  have HX := Aside0.mk hX
  have HXL := Aside0.mk hxl
  have HST := Aside0.mk (safe_start x hxl)
  clear hb hl1 hl2 hop la2 hX hxl hx
  go_enter Try.func5, Try.ntmps5
  go_wp2_with (fail)
  refine (first_calls _).mono ?_
  rintro e w1 ⟨rfl, h1⟩
  have H1 := Aside0.mk h1
  clear h1
  go_wp2_with (fail)
  refine (new_held (w0 := w) 1048576 (by omega) H1.out).mono ?_
  rintro e w2 ⟨rfl, h⟩
  have H2 := Aside0.mk h
  clear h
  obtain ⟨b, hb⟩ : ∃ b, w1.heap.size + 2 = b := ⟨_, rfl⟩
  rw [hb]
  rw [hb] at H2
  clear hb
  go_wp2_with (fail)
  refine (write_held H2.out ⟨#[115, 97, 102, 101]⟩ (nm_le _ (by decide)) _ x (HX.out.below H2.out.below) (by have := HXL.out; omega) (fun i hi => by have := len_le_room H2.out.wf hi; have e : (newSt (1048576 : Int)).room = 1048576 := rfl; have := HXL.out; omega) (by simp [newSt])).mono ?_
  rintro e w3 ⟨rfl, h⟩
  have H3 := Aside0.mk h
  clear h
  go_wp2_with (fail)
  refine (sync_held H3.out ⟨#[115, 97, 102, 101]⟩ (nm_le _ (by decide))).mono ?_
  rintro e w4 ⟨rfl, h⟩
  have H4 := Aside0.mk h
  clear h
  go_wp2_with (fail)
  refine (flush_held H4.out).mono ?_
  rintro e w5 ⟨rfl, h⟩
  obtain ⟨s3, hs3⟩ : ∃ s, ((((newSt 1048576).write sfn x).2.sync sfn).2.flush).2 = s := ⟨_, rfl⟩
  have H5 : Aside0 (Held w s3 b w5) := Aside0.mk (by rw [← hs3]; exact h)
  have HK : Aside0 (Keeps x s3 ∧ Inv 1 s3) := Aside0.mk (by rw [← hs3]; exact HST.out)
  clear h hs3 H4 H3 HST
  go_wp2_with (fail)
  go_loopw [10, 11, 34] (fun _ _ ix wr => ∃ (k : Nat) (s : St), k ≤ os.length ∧ k ≤ 40 ∧ ix = .int .i64 k ∧ Held w s b wr ∧ Keeps x s ∧ Inv (k + 1) s)
    (fun _ _ ix _ => os.length - (intOf ix).toNat)
  case atStart => exact ⟨0, s3, Nat.zero_le _, Nat.zero_le _, rfl, H5.out, HK.out.1, HK.out.2⟩
  case round =>
    obtain ⟨k, s, hk, hk40, rfl, hH, hKe, hI⟩ := hrel
    have HH := Aside0.mk hH
    have HKE := Aside0.mk hKe
    have HI := Aside0.mk hI
    clear hH hKe hI
    by_cases hlt : k < os.length
    · obtain ⟨ab, k0, rfl, hop⟩ := HOP.out (fun e => by rw [e] at hlt; exact absurd hlt (Nat.not_lt_zero _))
      obtain ⟨xv, hat⟩ := hop k _ (List.getElem?_eq_getElem hlt)
      obtain ⟨o, ho⟩ : ∃ o, os[k] = o := ⟨_, rfl⟩
      rw [ho] at hat
      obtain ⟨da, dc, rfl⟩ := hat.src.form
      have i1 : (k : Int) < os.length := by omega
      have hcell : ∀ j v, w.cell? ⟨ab, j, none⟩ = some v → wr.cell? ⟨ab, j, none⟩ = some v := fun j v hv => (HH.out.below.cell (p := ⟨ab, j, none⟩) (World.block_lt_of_cell? w _ hv)).trans hv
      have c0 := hcell _ _ hat.c0
      have c1 := hcell _ _ hat.c1
      have c2 := hcell _ _ hat.c2
      have c3 := hcell _ _ hat.c3
      have c4 := hcell _ _ hat.c4
      have HS := Aside0.mk hat.src
      have HN := Aside0.mk hat.n
      have HO := Aside0.mk ho
      clear hcell hat hop ho
      by_cases h40 : 40 ≤ k
      · have d40 : decide ((40 : Int) ≤ (k : Int)) = true := by simp; omega
        go_wp2_with (fail)
        refine (crash_held (HH.out.alloc _) keep).mono ?_
        rintro e wc ⟨rfl, h⟩
        have HC := Aside0.mk h
        clear h
        have HR := Aside0.mk (keeps_read (keeps_crash HKE.out HH.out.wf keep) HC.out.wf)
        go_wp2_with (fail)
        refine (read_held HC.out ⟨#[115, 97, 102, 101]⟩ (nm_le _ (by decide)) HR.out.1 (by unfold St.len; rw [HR.out.2]; have := HXL.out; omega)).mono ?_
        rintro e wd ⟨v, rfl, hr, hv, h⟩
        rw [HR.out.2] at hr
        have y1 := src_string hr.src
        have y2 := src_string (HX.out.below h.below)
        have HW := Aside0.mk h.below
        clear h hr hv
        go_wp2_with (fail)
        go_ret
        refine ⟨?_, HW.out⟩
        simp
      · have d40 : decide ((40 : Int) ≤ (k : Int)) = false := by simp; omega
        by_cases hd : 1000 < o.d.length
        · have d2 : decide ((1000 : Int) < (o.d.length : Int)) = true := by simp; omega
          go_wp2_with (fail)
          refine (crash_held (HH.out.alloc _) keep).mono ?_
          rintro e wc ⟨rfl, h⟩
          have HC := Aside0.mk h
          clear h
          have HR := Aside0.mk (keeps_read (keeps_crash HKE.out HH.out.wf keep) HC.out.wf)
          go_wp2_with (fail)
          refine (read_held HC.out ⟨#[115, 97, 102, 101]⟩ (nm_le _ (by decide)) HR.out.1 (by unfold St.len; rw [HR.out.2]; have := HXL.out; omega)).mono ?_
          rintro e wd ⟨v, rfl, hr, hv, h⟩
          rw [HR.out.2] at hr
          have y1 := src_string hr.src
          have y2 := src_string (HX.out.below h.below)
          have HW := Aside0.mk h.below
          clear h hr hv
          go_wp2_with (fail)
          go_ret
          refine ⟨?_, HW.out⟩
          simp
        · have d2 : decide ((1000 : Int) < (o.d.length : Int)) = false := by simp; omega
          have HK40 := Aside0.mk h40
          have HD := Aside0.mk hd
          obtain ⟨wa, hwa⟩ : ∃ wa, wr.alloc (.cells #[.int .i64 o.k, .int .i64 o.a, .int .i64 o.c, .int .i64 o.n, .slice da o.d.length dc] 42) = wa := ⟨_, rfl⟩
          have hal : wa.heap[wr.heap.size]? = some (.cells #[.int .i64 o.k, .int .i64 o.a, .int .i64 o.c, .int .i64 o.n, .slice da o.d.length dc] 42 (0, 0)) := by rw [← hwa]; exact heap_alloc_new wr _
          have HHA := Aside0.mk (show Held w s b wa by rw [← hwa]; exact HH.out.alloc _)
          have HAL := Aside0.mk hal
          have HWA := Aside0.mk hwa
          clear h40 hd hal hwa
          go_wp2_with (fail)
          rw [HWA.out]
          refine (free_below HHA.out (by have := (inv_small HI.out HH.out.wf (by omega)).dir; omega)).mono ?_
          rintro e w6 ⟨rfl, hb6⟩
          have HB6 := Aside0.mk hb6
          have HH6 := Aside0.mk (HHA.out.more hb6)
          clear hb6 c0 c1 c2 c3 c4
          by_cases hfr : s.free < 5000
          · have d3 : decide (s.free < (5000 : Int)) = true := by simp [hfr]
            clear hfr
            go_wp2_with (fail)
            refine (crash_held HH6.out keep).mono ?_
            rintro e wc ⟨rfl, h⟩
            have HC := Aside0.mk h
            clear h
            have HR := Aside0.mk (keeps_read (keeps_crash HKE.out HH.out.wf keep) HC.out.wf)
            go_wp2_with (fail)
            refine (read_held HC.out ⟨#[115, 97, 102, 101]⟩ (nm_le _ (by decide)) HR.out.1 (by unfold St.len; rw [HR.out.2]; have := HXL.out; omega)).mono ?_
            rintro e wd ⟨v, rfl, hr, hv, h⟩
            rw [HR.out.2] at hr
            have y1 := src_string hr.src
            have y2 := src_string (HX.out.below h.below)
            have HW := Aside0.mk h.below
            clear h hr hv
            go_wp2_with (fail)
            go_ret
            refine ⟨?_, HW.out⟩
            simp
          · have d3 : decide (s.free < (5000 : Int)) = false := by simp; omega
            clear hfr
            have hal6 : w6.heap[wr.heap.size]? = some (.cells #[.int .i64 o.k, .int .i64 o.a, .int .i64 o.c, .int .i64 o.n, .slice da o.d.length dc] 42 (0, 0)) := (HB6.out.block _ (Array.getElem?_eq_some_iff.1 HAL.out).1).trans HAL.out
            obtain ⟨w7, hw7⟩ : ∃ w7, w6.alloc (RCells 1048576 (.slice none 0 0) (.slice none 0 0) (.slice none 0 0) false 0 false) = w7 := ⟨_, rfl⟩
            have hb7 : Below w6.heap.size w6 w7 := by rw [← hw7]; exact (Below.refl _ _).alloc (Nat.le_refl _) _
            have hn7 : w7.heap[w6.heap.size]? = some (RCells 1048576 (.slice none 0 0) (.slice none 0 0) (.slice none 0 0) false 0 false) := by rw [← hw7]; exact heap_alloc_new w6 _
            have hal7 : w7.heap[wr.heap.size]? = some (.cells #[.int .i64 o.k, .int .i64 o.a, .int .i64 o.c, .int .i64 o.n, .slice da o.d.length dc] 42 (0, 0)) := (hb7.block _ (Array.getElem?_eq_some_iff.1 hal6).1).trans hal6
            have t0 : (w6.alloc (.cells #[.int .i64 1048576, .slice none 0 0, .slice none 0 0, .slice none 0 0, .bool false, .int .i64 0, .bool false] 48)).cell? ⟨wr.heap.size, 0, none⟩ = some (.int .i64 o.k) := by rw [show (w6.alloc (.cells #[.int .i64 1048576, .slice none 0 0, .slice none 0 0, .slice none 0 0, .bool false, .int .i64 0, .bool false] 48)) = w7 from hw7]; simp [World.cell?, hal7]
            have t1 : (w6.alloc (.cells #[.int .i64 1048576, .slice none 0 0, .slice none 0 0, .slice none 0 0, .bool false, .int .i64 0, .bool false] 48)).cell? ⟨wr.heap.size, 1, none⟩ = some (.int .i64 o.a) := by rw [show (w6.alloc (.cells #[.int .i64 1048576, .slice none 0 0, .slice none 0 0, .slice none 0 0, .bool false, .int .i64 0, .bool false] 48)) = w7 from hw7]; simp [World.cell?, hal7]
            have t2 : (w6.alloc (.cells #[.int .i64 1048576, .slice none 0 0, .slice none 0 0, .slice none 0 0, .bool false, .int .i64 0, .bool false] 48)).cell? ⟨wr.heap.size, 2, none⟩ = some (.int .i64 o.c) := by rw [show (w6.alloc (.cells #[.int .i64 1048576, .slice none 0 0, .slice none 0 0, .slice none 0 0, .bool false, .int .i64 0, .bool false] 48)) = w7 from hw7]; simp [World.cell?, hal7]
            have t3 : (w6.alloc (.cells #[.int .i64 1048576, .slice none 0 0, .slice none 0 0, .slice none 0 0, .bool false, .int .i64 0, .bool false] 48)).cell? ⟨wr.heap.size, 3, none⟩ = some (.int .i64 o.n) := by rw [show (w6.alloc (.cells #[.int .i64 1048576, .slice none 0 0, .slice none 0 0, .slice none 0 0, .bool false, .int .i64 0, .bool false] 48)) = w7 from hw7]; simp [World.cell?, hal7]
            have t4 : (w6.alloc (.cells #[.int .i64 1048576, .slice none 0 0, .slice none 0 0, .slice none 0 0, .bool false, .int .i64 0, .bool false] 48)).cell? ⟨wr.heap.size, 4, none⟩ = some (.slice da o.d.length dc) := by rw [show (w6.alloc (.cells #[.int .i64 1048576, .slice none 0 0, .slice none 0 0, .slice none 0 0, .bool false, .int .i64 0, .bool false] 48)) = w7 from hw7]; simp [World.cell?, hal7]
            have HP7 := Aside0.mk (held_pair HH6.out (room := 1048576) (by omega) (Nat.le_refl _) hb7 hn7)
            have HB7 := Aside0.mk (HH6.out.below.trans (hb7.mono HH6.out.below.size))
            have hw7' := hw7
            unfold RCells at hw7'
            have HW7 := Aside0.mk hw7'
            clear hal6 hb7 hn7 hal7 hw7 hw7'
            go_wp2_with (fail)
            rw [HW7.out]
            refine (step_calls HP7.out (inv_small HI.out HH.out.wf (by omega)) (inv_small (inv_new 1048576 1) HP7.out.wf2 (by omega)) o _ (Src.below HS.out HB7.out) (HS.out.lies) (by have := HD.out; omega) HN.out).mono ?_
            rintro e w8 ⟨rfl, hP8, hK8⟩
            have HP8 := Aside0.mk (pair_held hP8 (below_kf HB7.out hK8))
            clear hP8 hK8 t0 t1 t2 t3 t4
            go_wp2_with (fail)
            have h40 := HK40.out
            exact ⟨⟨k + 1, _, by omega, by omega, by go_num, HP8.out, keeps_play HKE.out HH.out.wf o, inv_play HI.out HH.out.wf o (by have := HD.out; omega)⟩, by simp [intOf]; omega⟩
    · have hke : k = os.length := by omega
      subst hke
      go_wp2_with (fail)
      refine (crash_held HH.out keep).mono ?_
      rintro e wc ⟨rfl, h⟩
      have HC := Aside0.mk h
      clear h
      have HR := Aside0.mk (keeps_read (keeps_crash HKE.out HH.out.wf keep) HC.out.wf)
      go_wp2_with (fail)
      refine (read_held HC.out ⟨#[115, 97, 102, 101]⟩ (nm_le _ (by decide)) HR.out.1 (by unfold St.len; rw [HR.out.2]; have := HXL.out; omega)).mono ?_
      rintro e wd ⟨v, rfl, hr, hv, h⟩
      rw [HR.out.2] at hr
      have y1 := src_string hr.src
      have y2 := src_string (HX.out.below h.below)
      have HW := Aside0.mk h.below
      clear h hr hv
      go_wp2_with (fail)
      go_ret
      refine ⟨?_, HW.out⟩
      simp
end Go.Proofs.Ytcaipccgphblnaa.Dk
