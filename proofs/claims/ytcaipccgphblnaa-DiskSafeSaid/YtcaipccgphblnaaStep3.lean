/- disk: an operation of a script upon both disks. -/
import Derived.Test.YtcaipccgphblnaaStep2
namespace Go.Proofs.Ytcaipccgphblnaa.Dk
open Go.RowKit Go.WideMaps Go.Proofs.YtcaipccgphblnaaW.PrintWords
set_option linter.unusedSimpArgs false
/-- Bytes of a block. -/
def Bytes (w : World) (g n : Nat) : Prop := ∃ cur : Array Value, w.heap[g]? = some (.cells cur 5 (0, 0)) ∧ n ≤ cur.size ∧ ∀ j, j < n → ∃ z : Int, cur[j]? = some (.int .u8 z)
/-- A slice of bytes that may be written over. -/
def Over (w : World) (v : Value) (n : Nat) : Prop := n ≠ 0 → ∃ g cap, v = .slice (some ⟨g, 0, none⟩) n cap ∧ Bytes w g n
theorem Row.over {w : World} {v : Value} {xs : Bs} (h : Row w v xs) : Over w v xs.length := fun hn => by
  rcases h with ⟨_, rfl⟩ | ⟨g, cap, cur, rfl, hg, h1, h2, h3, h4⟩
  · exact absurd rfl hn
  · refine ⟨g, cap, rfl, cur, hg, by rcases h3 with h3 | h3 <;> omega, fun j hj => ?_⟩
    have : (cur.toList.take xs.length)[j]? = (xs.map bv)[j]? := by rw [h4]
    rw [List.getElem?_take, if_pos hj, List.getElem?_map, List.getElem?_eq_getElem hj] at this
    exact ⟨_, by simpa using this⟩
theorem Over.keep {w w' : World} {v : Value} {n : Nat} (h : Over w v n) (hk : ∀ g, v.ownBlock = some g → w'.heap[g]? = w.heap[g]?) : Over w' v n := fun hn => by
  obtain ⟨g, cap, rfl, cur, hg, r⟩ := h hn
  exact ⟨g, cap, rfl, cur, (hk g rfl).trans hg, r⟩
theorem Bytes.at {w : World} {g n j : Nat} (h : Bytes w g n) (hj : j < n) : ∃ z : Int, w.cell? ⟨g, j, none⟩ = some (.int .u8 z) ∧ w.frozen? ⟨g, j, none⟩ = false := by
  obtain ⟨cur, hg, h1, h2⟩ := h
  obtain ⟨z, hz⟩ := h2 j hj
  exact ⟨z, by rw [cell_of_row w g j cur 5 (0, 0) hg]; exact hz, by simp [World.frozen?, hg]⟩
theorem Bytes.poke {w : World} {g n : Nat} (h : Bytes w g n) (j : Nat) (z : Int) : Bytes (w.setCell ⟨g, j, none⟩ (.int .u8 z)) g n := by
  obtain ⟨cur, hg, h1, h2⟩ := h
  refine ⟨cur.setIfInBounds j (.int .u8 z), by simp [World.setCell, Array.getElem?_modify, hg], by simpa using h1, fun i hi => ?_⟩
  obtain ⟨y, hy⟩ := h2 i hi
  rw [Array.getElem?_setIfInBounds]
  by_cases e : j = i
  · subst e
    have hj : j < cur.size := by omega
    exact ⟨z, by simp [hj]⟩
  · exact ⟨y, by rw [if_neg e]; exact hy⟩
section
variable {K : Nat → Prop} {st st2 : St} {b b2 : Nat} {w : World}
set_option maxRecDepth 100000 in
set_option maxHeartbeats 4000000 in
theorem step_read (h : Pair K st b st2 b2 w) (hs : Small st) (hs2 : Small st2) (o : Opr) (v : Value) (hv : Src w v o.d) (hl : Lies K v) (hd : o.d.length ≤ 1000) (hn : -9223372036854775808 ≤ o.n ∧ o.n ≤ 9223372036854775807) {x1 x2 : Int × St} (hk : kindI o.k = 8 ∧ x1 = (0, st) ∧ x2 = (0, st2)) :
    Calls Try.prog 18 #[.pointer (some ⟨b, 0, none⟩), .pointer (some ⟨b2, 0, none⟩), .agg #[.int .i64 o.k, .int .i64 o.a, .int .i64 o.c, .int .i64 o.n, v]] w fun e w' => e = .returned (.bool (x1.1 == x2.1)) ∧ Pair K x1.2 b x2.2 b2 w' ∧ Kf K w w' := by
  obtain ⟨da, dc, rfl⟩ := hv.form
  obtain ⟨wb, hwb⟩ : ∃ wb, w.alloc (.cells #[.int .i64 o.k, .int .i64 o.a, .int .i64 o.c, .int .i64 o.n, .slice da o.d.length dc] 42) = wb := ⟨_, rfl⟩
  have hbw : Below w.heap.size w wb := by rw [← hwb]; exact (Below.refl _ _).alloc (Nat.le_refl _) _
  have hbox : wb.heap[w.heap.size]? = some (.cells #[.int .i64 o.k, .int .i64 o.a, .int .i64 o.c, .int .i64 o.n, .slice da o.d.length dc] 42 (0, 0)) := by rw [← hwb]; exact heap_alloc_new w _
  have hbl : w.heap.size < wb.heap.size := by rw [← hwb]; simp
  have c0 : wb.cell? ⟨w.heap.size, 0, none⟩ = some (.int .i64 o.k) := by simp [World.cell?, hbox]
  have c1 : wb.cell? ⟨w.heap.size, 1, none⟩ = some (.int .i64 o.a) := by simp [World.cell?, hbox]
  have c2 : wb.cell? ⟨w.heap.size, 2, none⟩ = some (.int .i64 o.c) := by simp [World.cell?, hbox]
  have c3 : wb.cell? ⟨w.heap.size, 3, none⟩ = some (.int .i64 o.n) := by simp [World.cell?, hbox]
  have c4 : wb.cell? ⟨w.heap.size, 4, none⟩ = some (.slice da o.d.length dc) := by simp [World.cell?, hbox]
  have HC := Aside0.mk (And.intro c0 (And.intro c3 c4))
  clear c0 c3 c4
  have HP := Aside0.mk h
  have HS := Aside0.mk hs
  have HS2 := Aside0.mk hs2
  have HBW := Aside0.mk hbw
  have HBL := Aside0.mk hbl
  have HN := Aside0.mk hn
  have HWB := Aside0.mk hwb
  have HD := Aside0.mk hd
  have HV := Aside0.mk hv
  have HL := Aside0.mk hl
  have HKI := Aside0.mk (kindI_is o.k)
  have HKK := Aside0.mk hk
  clear h hs hs2 hbw hbox hbl hn hk hwb hd hv hl
  go_enter Try.func18, Try.ntmps18
  go_wp2_with (fail)
  rw [HWB.out]
  go_region_held3 (fun wx => wx.cell? ⟨w.heap.size, 1, none⟩ = some (.int .i64 o.a) ∧ wx.cell? ⟨w.heap.size, 2, none⟩ = some (.int .i64 o.c)) (first | exact ⟨c1, c2⟩ | exact ⟨q1, q2⟩ | exact ⟨p1, p2⟩ | go_keep) (first
    | (go_at_call 33; refine (name_calls o.a _).mono ?_; rintro e w2 ⟨rfl, hb2⟩; have HB2 := Aside0.mk (show Below wb.heap.size wb w2 from ⟨hb2.os, hb2.tape, hb2.output, hb2.size, hb2.block⟩); have q1 : w2.cell? ⟨w.heap.size, 1, none⟩ = some (.int .i64 o.a) := (HB2.out.cell (p := ⟨w.heap.size, 1, none⟩) HBL.out).trans c1; have q2 : w2.cell? ⟨w.heap.size, 2, none⟩ = some (.int .i64 o.c) := (HB2.out.cell (p := ⟨w.heap.size, 2, none⟩) HBL.out).trans c2; clear hb2)
    | (go_at_call 33; refine (name_calls o.c _).mono ?_; rintro e w3 ⟨rfl, hb3⟩; have HB3 := Aside0.mk (HB2.out.trans (hb3.mono HB2.out.size)); have p1 : w3.cell? ⟨w.heap.size, 1, none⟩ = some (.int .i64 o.a) := (HB3.out.cell (p := ⟨w.heap.size, 1, none⟩) HBL.out).trans c1; have p2 : w3.cell? ⟨w.heap.size, 2, none⟩ = some (.int .i64 o.c) := (HB3.out.cell (p := ⟨w.heap.size, 2, none⟩) HBL.out).trans c2; clear hb3))
  clear q1 q2 p1 p2 c1 c2
  have p0 : w3.cell? ⟨w.heap.size, 0, none⟩ = some (.int .i64 o.k) := (HB3.out.cell (p := ⟨w.heap.size, 0, none⟩) HBL.out).trans HC.out.1
  have p3 : w3.cell? ⟨w.heap.size, 3, none⟩ = some (.int .i64 o.n) := (HB3.out.cell (p := ⟨w.heap.size, 3, none⟩) HBL.out).trans HC.out.2.1
  have p4 : w3.cell? ⟨w.heap.size, 4, none⟩ = some (.slice da o.d.length dc) := (HB3.out.cell (p := ⟨w.heap.size, 4, none⟩) HBL.out).trans HC.out.2.2
  have hP3 : Pair (K1 K w wb) st b st2 b2 w3 := (((HP.out.below HBW.out).below HB3.out).mono fun _ hk => .inl hk)
  have hK3 : Kf (K1 K w wb) wb w3 := Kf.of_below HB3.out fun k hk => hk.elim (fun e => Nat.lt_of_lt_of_le (HP.out.lt k e) HBW.out.size) (fun e => e.2)
  have HP3 := Aside0.mk hP3
  have HK3 := Aside0.mk hK3
  have hm := u64_mod o.k 9 (by omega)
  rw [HKI.out.1] at hm
  have hm2 := u64_twice o.k
  have hb1 : K1 K w wb w.heap.size := .inr ⟨Nat.le_refl _, HBL.out⟩
  have HB1 := Aside0.mk hb1
  clear hP3 hK3 hb1
  have hj := HKK.out.1
  have HX := Aside0.mk HKK.out.2
  rw [hj] at hm
  clear hj HKK
  go_wp2_with (fail)
  refine (pair_read HP3.out HS.out (nameI o.a) (nameI_size _)).mono ?_
  rintro e w4 ⟨v, r, xs, rfl, hr, _, _, hg, hb4⟩
  obtain ⟨va, vc, rfl, hl1, hl2⟩ := hr.form
  have hP4 := HP3.out.below hb4
  have HP4 := Aside0.mk hP4
  have HK4 := Aside0.mk (Kf.of_below hb4 HP3.out.lt)
  have HOV := Aside0.mk hr.over
  have HG := Aside0.mk hg
  have hxm : xs.length ≤ 9223372036854775807 := by unfold maxLen at hl2; omega
  clear hr hb4 hP4 hg hl1 hl2 p0 p3 p4
  go_wp2_with (fail)
  go_loopw [14, 33] (fun _ ix wr => ∃ k : Nat, k ≤ xs.length ∧ ix = .int .i64 k ∧ Pair (fun k => K1 K w wb k ∨ (w3.heap.size ≤ k ∧ k < w4.heap.size)) st b st2 b2 wr ∧ Over wr (.slice va xs.length vc) xs.length ∧ Kf (K1 K w wb) w4 wr)
    (fun _ ix _ => xs.length - (intOf ix).toNat)
  case atStart => exact ⟨0, Nat.zero_le _, rfl, HP4.out, HOV.out, Kf.refl _ _⟩
  case round =>
    obtain ⟨k, hk, rfl, hP, hO, hKf⟩ := hrel
    by_cases hlt : k < xs.length
    · obtain ⟨g, cap, hv, hB⟩ := hO (by omega)
      cases hv
      obtain ⟨z, hz, hfz⟩ := hB.at hlt
      have i1 : (k : Int) < xs.length := by omega
      have HPR := Aside0.mk hP
      have HB := Aside0.mk hB
      have HKF := Aside0.mk hKf
      clear hP hO hKf hB
      go_wp2_with (fail)
      have hgk := HG.out g rfl
      exact ⟨⟨k + 1, by omega, by go_num, HPR.out.poke (p := ⟨g, k, none⟩) (.inr hgk) _, fun _ => ⟨g, vc, rfl, HB.out.poke k _⟩, HKF.out.trans ⟨rfl, rfl, rfl, by simp, fun q hq => Below.heap_setCell _ _ _ q (fun e => by have h1 := HP3.out.lt q hq; simp only at e; omega)⟩⟩, by simp [intOf]; omega⟩
    · have hke : k = xs.length := by omega
      subst hke
      have HPR := Aside0.mk hP
      have HKF := Aside0.mk hKf
      clear hP hO hKf
      go_wp2_with (fail)
      go_ret
      rw [HX.out.1, HX.out.2]
      exact ⟨rfl, HPR.out.mono fun _ hk => .inl (.inl hk), k1_kf HBW.out HP.out.lt ((HK3.out.trans HK4.out).trans HKF.out)⟩
set_option maxRecDepth 100000 in
set_option maxHeartbeats 4000000 in
theorem step_write (h : Pair K st b st2 b2 w) (hs : Small st) (hs2 : Small st2) (o : Opr) (v : Value) (hv : Src w v o.d) (hl : Lies K v) (hd : o.d.length ≤ 1000) (hn : -9223372036854775808 ≤ o.n ∧ o.n ≤ 9223372036854775807) {x1 x2 : Int × St} (hk : kindI o.k = 0 ∧ x1 = st.write (nameI o.a).data.toList o.d ∧ x2 = st2.write (nameI o.a).data.toList o.d) :
    Calls Try.prog 18 #[.pointer (some ⟨b, 0, none⟩), .pointer (some ⟨b2, 0, none⟩), .agg #[.int .i64 o.k, .int .i64 o.a, .int .i64 o.c, .int .i64 o.n, v]] w fun e w' => e = .returned (.bool (x1.1 == x2.1)) ∧ Pair K x1.2 b x2.2 b2 w' ∧ Kf K w w' := by
  obtain ⟨da, dc, rfl⟩ := hv.form
  obtain ⟨wb, hwb⟩ : ∃ wb, w.alloc (.cells #[.int .i64 o.k, .int .i64 o.a, .int .i64 o.c, .int .i64 o.n, .slice da o.d.length dc] 42) = wb := ⟨_, rfl⟩
  have hbw : Below w.heap.size w wb := by rw [← hwb]; exact (Below.refl _ _).alloc (Nat.le_refl _) _
  have hbox : wb.heap[w.heap.size]? = some (.cells #[.int .i64 o.k, .int .i64 o.a, .int .i64 o.c, .int .i64 o.n, .slice da o.d.length dc] 42 (0, 0)) := by rw [← hwb]; exact heap_alloc_new w _
  have hbl : w.heap.size < wb.heap.size := by rw [← hwb]; simp
  have c0 : wb.cell? ⟨w.heap.size, 0, none⟩ = some (.int .i64 o.k) := by simp [World.cell?, hbox]
  have c1 : wb.cell? ⟨w.heap.size, 1, none⟩ = some (.int .i64 o.a) := by simp [World.cell?, hbox]
  have c2 : wb.cell? ⟨w.heap.size, 2, none⟩ = some (.int .i64 o.c) := by simp [World.cell?, hbox]
  have c3 : wb.cell? ⟨w.heap.size, 3, none⟩ = some (.int .i64 o.n) := by simp [World.cell?, hbox]
  have c4 : wb.cell? ⟨w.heap.size, 4, none⟩ = some (.slice da o.d.length dc) := by simp [World.cell?, hbox]
  have HC := Aside0.mk (And.intro c0 (And.intro c3 c4))
  clear c0 c3 c4
  have HP := Aside0.mk h
  have HS := Aside0.mk hs
  have HS2 := Aside0.mk hs2
  have HBW := Aside0.mk hbw
  have HBL := Aside0.mk hbl
  have HN := Aside0.mk hn
  have HWB := Aside0.mk hwb
  have HD := Aside0.mk hd
  have HV := Aside0.mk hv
  have HL := Aside0.mk hl
  have HKI := Aside0.mk (kindI_is o.k)
  have HKK := Aside0.mk hk
  clear h hs hs2 hbw hbox hbl hn hk hwb hd hv hl
  go_enter Try.func18, Try.ntmps18
  go_wp2_with (fail)
  rw [HWB.out]
  go_region_held3 (fun wx => wx.cell? ⟨w.heap.size, 1, none⟩ = some (.int .i64 o.a) ∧ wx.cell? ⟨w.heap.size, 2, none⟩ = some (.int .i64 o.c)) (first | exact ⟨c1, c2⟩ | exact ⟨q1, q2⟩ | exact ⟨p1, p2⟩ | go_keep) (first
    | (go_at_call 33; refine (name_calls o.a _).mono ?_; rintro e w2 ⟨rfl, hb2⟩; have HB2 := Aside0.mk (show Below wb.heap.size wb w2 from ⟨hb2.os, hb2.tape, hb2.output, hb2.size, hb2.block⟩); have q1 : w2.cell? ⟨w.heap.size, 1, none⟩ = some (.int .i64 o.a) := (HB2.out.cell (p := ⟨w.heap.size, 1, none⟩) HBL.out).trans c1; have q2 : w2.cell? ⟨w.heap.size, 2, none⟩ = some (.int .i64 o.c) := (HB2.out.cell (p := ⟨w.heap.size, 2, none⟩) HBL.out).trans c2; clear hb2)
    | (go_at_call 33; refine (name_calls o.c _).mono ?_; rintro e w3 ⟨rfl, hb3⟩; have HB3 := Aside0.mk (HB2.out.trans (hb3.mono HB2.out.size)); have p1 : w3.cell? ⟨w.heap.size, 1, none⟩ = some (.int .i64 o.a) := (HB3.out.cell (p := ⟨w.heap.size, 1, none⟩) HBL.out).trans c1; have p2 : w3.cell? ⟨w.heap.size, 2, none⟩ = some (.int .i64 o.c) := (HB3.out.cell (p := ⟨w.heap.size, 2, none⟩) HBL.out).trans c2; clear hb3))
  clear q1 q2 p1 p2 c1 c2
  have p0 : w3.cell? ⟨w.heap.size, 0, none⟩ = some (.int .i64 o.k) := (HB3.out.cell (p := ⟨w.heap.size, 0, none⟩) HBL.out).trans HC.out.1
  have p3 : w3.cell? ⟨w.heap.size, 3, none⟩ = some (.int .i64 o.n) := (HB3.out.cell (p := ⟨w.heap.size, 3, none⟩) HBL.out).trans HC.out.2.1
  have p4 : w3.cell? ⟨w.heap.size, 4, none⟩ = some (.slice da o.d.length dc) := (HB3.out.cell (p := ⟨w.heap.size, 4, none⟩) HBL.out).trans HC.out.2.2
  have hP3 : Pair (K1 K w wb) st b st2 b2 w3 := (((HP.out.below HBW.out).below HB3.out).mono fun _ hk => .inl hk)
  have hK3 : Kf (K1 K w wb) wb w3 := Kf.of_below HB3.out fun k hk => hk.elim (fun e => Nat.lt_of_lt_of_le (HP.out.lt k e) HBW.out.size) (fun e => e.2)
  have HP3 := Aside0.mk hP3
  have HK3 := Aside0.mk hK3
  have hm := u64_mod o.k 9 (by omega)
  rw [HKI.out.1] at hm
  have hm2 := u64_twice o.k
  have hb1 : K1 K w wb w.heap.size := .inr ⟨Nat.le_refl _, HBL.out⟩
  have HB1 := Aside0.mk hb1
  clear hP3 hK3 hb1
  have hj := HKK.out.1
  have HX := Aside0.mk HKK.out.2
  rw [hj] at hm
  clear hj HKK
  -- the bytes laid anew
  have hb4a : Below w3.heap.size w3 (w3.alloc (.cells #[] 5)) := (Below.refl _ _).alloc (Nat.le_refl _) _
  have hkv : Kf K w w3 := k1_kf HBW.out HP.out.lt HK3.out
  have hsrc : Src (w3.alloc (.cells #[] 5)) (.slice da o.d.length dc) o.d := Src.below (HV.out.kf HL.out hkv) hb4a
  obtain ⟨v4, w4, hrun, hr4, hg4, ha4⟩ := brow_append 29 (w3.alloc (.cells #[] 5)) (.slice (some ⟨w3.heap.size, 0, none⟩) 0 0) (.slice da o.d.length dc) [] o.d (brow_made w3) hsrc (by have := HD.out; simp only [List.length_nil]; omega)
  rw [List.nil_append] at hr4
  obtain ⟨va, vc, hv4, hl1, hl2⟩ := hr4.form
  subst hv4
  have hb4 : Below w3.heap.size w3 w4 := hb4a.grown hg4 (by simp) (fun q e => by cases e; exact Nat.le_refl _)
  have hown : ∀ q, (Value.slice va o.d.length vc).ownBlock = some q → w3.heap.size ≤ q ∧ q < w4.heap.size := by
    intro q hq
    refine ⟨?_, BRow.lt hr4 hq⟩
    rcases ha4 with e | e
    · rw [e] at hq; cases hq; exact Nat.le_refl _
    · rw [e] at hq; cases hq; simp
  have hP4 := HP3.out.below hb4
  have HP4 := Aside0.mk hP4
  have HK4 := Aside0.mk (Kf.of_below hb4 HP3.out.lt)
  have HR4 := Aside0.mk hr4
  have HOWN := Aside0.mk hown
  have HRUN := Aside0.mk hrun
  have hxm : o.d.length ≤ 9223372036854775807 := by have := HD.out; omega
  have p4' : (w3.alloc (.cells #[] 5)).cell? ⟨w.heap.size, 4, none⟩ = some (.slice da o.d.length dc) := (hb4a.cell (p := ⟨w.heap.size, 4, none⟩) (HP3.out.lt _ HB1.out)).trans p4
  clear hb4a hkv hsrc hrun hr4 hg4 ha4 hl1 hl2 hb4 hown hP4 p3
  go_wp2_with (at_builtin; refine wpList_append_run _ rfl _ _ 29 rfl _ _ _ _ rfl rfl HRUN.out ?_)
  refine (pair_write HP4.out HS.out (nameI o.a) (nameI_size _) (.slice va o.d.length vc) o.d HR4.out.row.src (by have := HD.out; omega)).mono ?_
  rintro e w5 ⟨rfl, hP5, hK5⟩
  have hov : Over w5 (.slice va o.d.length vc) o.d.length := HR4.out.row.over.keep fun g hg => hK5.block g (.inr (HOWN.out g hg))
  have HOV := Aside0.mk hov
  have HP5 := Aside0.mk hP5
  have HK5 := Aside0.mk hK5
  clear hP5 hK5 hov p0 p4 p4'
  go_wp2_with (fail)
  go_loopw [11, 55] (fun _ ix wr => ∃ k : Nat, k ≤ o.d.length ∧ ix = .int .i64 k ∧ Pair (fun k => K1 K w wb k ∨ (w3.heap.size ≤ k ∧ k < w4.heap.size)) (st.write (nameI o.a).data.toList o.d).2 b st2 b2 wr ∧ Over wr (.slice va o.d.length vc) o.d.length ∧ Kf (K1 K w wb) w5 wr)
    (fun _ ix _ => o.d.length - (intOf ix).toNat)
  case atStart => exact ⟨0, Nat.zero_le _, rfl, HP5.out, HOV.out, Kf.refl _ _⟩
  case round =>
    obtain ⟨k, hk, rfl, hP, hO, hKf⟩ := hrel
    by_cases hlt : k < o.d.length
    · obtain ⟨g, cap, hv, hB⟩ := hO (by omega)
      cases hv
      obtain ⟨z, hz, hfz⟩ := hB.at hlt
      have i1 : (k : Int) < o.d.length := by omega
      have HPR := Aside0.mk hP
      have HB := Aside0.mk hB
      have HKF := Aside0.mk hKf
      clear hP hO hKf hB
      go_wp2_with (fail)
      have hgk := HOWN.out g rfl
      exact ⟨⟨k + 1, by omega, by go_num, HPR.out.poke (p := ⟨g, k, none⟩) (.inr hgk) _, fun _ => ⟨g, vc, rfl, HB.out.poke k _⟩, HKF.out.trans ⟨rfl, rfl, rfl, by simp, fun q hq => Below.heap_setCell _ _ _ q (fun e => by have h1 := HP3.out.lt q hq; simp only at e; omega)⟩⟩, by simp [intOf]; omega⟩
    · have hke : k = o.d.length := by omega
      subst hke
      have hkk : Kf (K1 K w wb) wb wr := ((HK3.out.trans HK4.out).trans (HK5.out.mono fun _ hk => .inl hk)).trans hKf
      have r4 : wr.cell? ⟨w.heap.size, 4, none⟩ = some (.slice da o.d.length dc) := (hkk.cell (p := ⟨w.heap.size, 4, none⟩) HB1.out).trans HC.out.2.2
      have HVR := Aside0.mk (HV.out.kf HL.out (k1_kf HBW.out HP.out.lt hkk))
      have HKK := Aside0.mk hkk
      have HPR := Aside0.mk (hP.mono fun _ hk => .inl hk : Pair (K1 K w wb) (st.write (nameI o.a).data.toList o.d).2 b st2 b2 wr)
      clear hP hO hKf hkk
      go_wp2_with (fail)
      refine (pair_write2 HPR.out HS2.out (nameI o.a) _ o.d HVR.out (fun a n k e hn => .inl (HL.out a n k e hn)) (by have := HD.out; omega)).mono ?_
      rintro e w6 ⟨rfl, hP6, hK6⟩
      have HP6 := Aside0.mk hP6
      have HK6 := Aside0.mk hK6
      clear hP6 hK6
      go_wp2_with (fail)
      go_ret
      rw [HX.out.1, HX.out.2]
      exact ⟨rfl, HP6.out.mono fun _ hk => .inl hk, k1_kf HBW.out HP.out.lt (HKK.out.trans HK6.out)⟩
theorem step_calls (h : Pair K st b st2 b2 w) (hs : Small st) (hs2 : Small st2) (o : Opr) (v : Value) (hv : Src w v o.d) (hl : Lies K v) (hd : o.d.length ≤ 1000) (hn : -9223372036854775808 ≤ o.n ∧ o.n ≤ 9223372036854775807) :
    Calls Try.prog 18 #[.pointer (some ⟨b, 0, none⟩), .pointer (some ⟨b2, 0, none⟩), .agg #[.int .i64 o.k, .int .i64 o.a, .int .i64 o.c, .int .i64 o.n, v]] w fun e w' => e = .returned (.bool (ansOf o st st2)) ∧ Pair K (st.play o).2 b (st2.play o).2 b2 w' ∧ Kf K w w' := by
  unfold ansOf
  have hk := (kindI_is o.k).2
  rcases (by omega : kindI o.k = 0 ∨ kindI o.k = 1 ∨ kindI o.k = 2 ∨ kindI o.k = 3 ∨ kindI o.k = 4 ∨ kindI o.k = 5 ∨ kindI o.k = 6 ∨ kindI o.k = 7 ∨ kindI o.k = 8) with e | e | e | e | e | e | e | e | e
  · exact step_write h hs hs2 o v hv hl hd hn ⟨e, by unfold St.play; simp only [e], by unfold St.play; simp only [e]⟩
  · exact step_low h hs hs2 o v hv hl hd hn (.inl ⟨e, by unfold St.play; simp only [e], by unfold St.play; simp only [e]⟩)
  · exact step_mid h hs hs2 o v hv hl hd hn (.inl ⟨e, by unfold St.play; simp only [e], by unfold St.play; simp only [e]⟩)
  · exact step_mid h hs hs2 o v hv hl hd hn (.inr (.inl ⟨e, by unfold St.play; simp only [e], by unfold St.play; simp only [e]⟩))
  · exact step_mid h hs hs2 o v hv hl hd hn (.inr (.inr (.inl ⟨e, by unfold St.play; simp only [e], by unfold St.play; simp only [e]⟩)))
  · exact step_mid h hs hs2 o v hv hl hd hn (.inr (.inr (.inr ⟨e, by unfold St.play; simp only [e], by unfold St.play; simp only [e]⟩)))
  · exact step_low h hs hs2 o v hv hl hd hn (.inr (.inl ⟨e, by unfold St.play; simp only [e], by unfold St.play; simp only [e]⟩))
  · exact step_low h hs hs2 o v hv hl hd hn (.inr (.inr ⟨e, by unfold St.play; simp only [e], by unfold St.play; simp only [e]⟩))
  · exact step_read h hs hs2 o v hv hl hd hn ⟨e, by unfold St.play; simp only [e], by unfold St.play; simp only [e]⟩
end
end Go.Proofs.Ytcaipccgphblnaa.Dk
