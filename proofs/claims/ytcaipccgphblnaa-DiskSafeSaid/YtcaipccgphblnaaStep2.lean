/- disk: an operation of a script upon both disks. -/
import Derived.Test.YtcaipccgphblnaaStep
namespace Go.Proofs.Ytcaipccgphblnaa.Dk
open Go.RowKit Go.WideMaps Go.Proofs.YtcaipccgphblnaaW.PrintWords
set_option linter.unusedSimpArgs false
section
variable {K : Nat → Prop} {st st2 : St} {b b2 : Nat} {w : World}
set_option maxRecDepth 100000 in
set_option maxHeartbeats 4000000 in
theorem step_low (h : Pair K st b st2 b2 w) (hs : Small st) (hs2 : Small st2) (o : Opr) (v : Value) (hv : Src w v o.d) (hl : Lies K v) (hd : o.d.length ≤ 1000) (hn : -9223372036854775808 ≤ o.n ∧ o.n ≤ 9223372036854775807) {x1 x2 : Int × St} (hk : (kindI o.k = 1 ∧ x1 = st.cut (nameI o.a).data.toList o.n ∧ x2 = st2.cut (nameI o.a).data.toList o.n) ∨ (kindI o.k = 6 ∧ x1 = (0, st.crash o.n) ∧ x2 = (0, st2.crash o.n)) ∨ (kindI o.k = 7 ∧ x1 = (0, st.fail o.n) ∧ x2 = (0, st2.fail o.n))) :
    Calls Try.prog 18 #[.pointer (some ⟨b, 0, none⟩), .pointer (some ⟨b2, 0, none⟩), .agg #[.int .i64 o.k, .int .i64 o.a, .int .i64 o.c, .int .i64 o.n, v]] w fun e w' => e = .returned (.bool (x1.1 == x2.1)) ∧ Pair K x1.2 b x2.2 b2 w' ∧ Kf K w w' := by
  obtain ⟨da, dc, rfl⟩ := hv.form
  obtain ⟨wb, hwb⟩ : ∃ wb, w.alloc (.cells #[.int .i64 o.k, .int .i64 o.a, .int .i64 o.c, .int .i64 o.n, .slice da o.d.length dc] 42) = wb := ⟨_, rfl⟩
  have hbw : Below w.heap.size w wb := by rw [← hwb]; exact (Below.refl _ _).alloc (Nat.le_refl _) _
  have hbox : wb.heap[w.heap.size]? = some (.cells #[.int .i64 o.k, .int .i64 o.a, .int .i64 o.c, .int .i64 o.n, .slice da o.d.length dc] 42 (0, 0)) := by rw [← hwb]; exact heap_alloc_new w _
  have hbl : w.heap.size < wb.heap.size := by rw [← hwb]; simp
  have c0 : wb.cell? ⟨w.heap.size, 0, none⟩ = some (.int .i64 o.k) := by simp [World.cell?, hbox]
  have c1 : wb.cell? ⟨w.heap.size, 1, none⟩ = some (.int .i64 o.a) := by simp [World.cell?, hbox]
  have c2 : wb.cell? ⟨w.heap.size, 2, none⟩ = some (.int .i64 o.c) := by simp [World.cell?, hbox]
  have c3 : wb.cell? ⟨w.heap.size, 3, none⟩ = some (.int .i64 o.n) := by simp [World.cell?, hbox]
  have c4 : wb.cell? ⟨w.heap.size, 4, none⟩ = some (.slice da o.d.length dc) := by simp [World.cell?, hbox]
  have HC := Aside0.mk (And.intro c0 (And.intro c3 c4))
  clear c0 c3 c4
  have HP := Aside0.mk h
  have HS := Aside0.mk hs
  have HS2 := Aside0.mk hs2
  have HBW := Aside0.mk hbw
  have HBL := Aside0.mk hbl
  have HN := Aside0.mk hn
  have HWB := Aside0.mk hwb
  have HD := Aside0.mk hd
  have HV := Aside0.mk hv
  have HL := Aside0.mk hl
  have HKI := Aside0.mk (kindI_is o.k)
  have HKK := Aside0.mk hk
  clear h hs hs2 hbw hbox hbl hn hk hwb hd hv hl
  go_enter Try.func18, Try.ntmps18
  go_wp2_with (fail)
  rw [HWB.out]
  go_region_held3 (fun wx => wx.cell? ⟨w.heap.size, 1, none⟩ = some (.int .i64 o.a) ∧ wx.cell? ⟨w.heap.size, 2, none⟩ = some (.int .i64 o.c)) (first | exact ⟨c1, c2⟩ | exact ⟨q1, q2⟩ | exact ⟨p1, p2⟩ | go_keep) (first
    | (go_at_call 33; refine (name_calls o.a _).mono ?_; rintro e w2 ⟨rfl, hb2⟩; have HB2 := Aside0.mk (show Below wb.heap.size wb w2 from ⟨hb2.os, hb2.tape, hb2.output, hb2.size, hb2.block⟩); have q1 : w2.cell? ⟨w.heap.size, 1, none⟩ = some (.int .i64 o.a) := (HB2.out.cell (p := ⟨w.heap.size, 1, none⟩) HBL.out).trans c1; have q2 : w2.cell? ⟨w.heap.size, 2, none⟩ = some (.int .i64 o.c) := (HB2.out.cell (p := ⟨w.heap.size, 2, none⟩) HBL.out).trans c2; clear hb2)
    | (go_at_call 33; refine (name_calls o.c _).mono ?_; rintro e w3 ⟨rfl, hb3⟩; have HB3 := Aside0.mk (HB2.out.trans (hb3.mono HB2.out.size)); have p1 : w3.cell? ⟨w.heap.size, 1, none⟩ = some (.int .i64 o.a) := (HB3.out.cell (p := ⟨w.heap.size, 1, none⟩) HBL.out).trans c1; have p2 : w3.cell? ⟨w.heap.size, 2, none⟩ = some (.int .i64 o.c) := (HB3.out.cell (p := ⟨w.heap.size, 2, none⟩) HBL.out).trans c2; clear hb3))
  clear q1 q2 p1 p2 c1 c2
  have p0 : w3.cell? ⟨w.heap.size, 0, none⟩ = some (.int .i64 o.k) := (HB3.out.cell (p := ⟨w.heap.size, 0, none⟩) HBL.out).trans HC.out.1
  have p3 : w3.cell? ⟨w.heap.size, 3, none⟩ = some (.int .i64 o.n) := (HB3.out.cell (p := ⟨w.heap.size, 3, none⟩) HBL.out).trans HC.out.2.1
  have p4 : w3.cell? ⟨w.heap.size, 4, none⟩ = some (.slice da o.d.length dc) := (HB3.out.cell (p := ⟨w.heap.size, 4, none⟩) HBL.out).trans HC.out.2.2
  have hP3 : Pair (K1 K w wb) st b st2 b2 w3 := (((HP.out.below HBW.out).below HB3.out).mono fun _ hk => .inl hk)
  have hK3 : Kf (K1 K w wb) wb w3 := Kf.of_below HB3.out fun k hk => hk.elim (fun e => Nat.lt_of_lt_of_le (HP.out.lt k e) HBW.out.size) (fun e => e.2)
  have HP3 := Aside0.mk hP3
  have HK3 := Aside0.mk hK3
  have hm := u64_mod o.k 9 (by omega)
  rw [HKI.out.1] at hm
  have hm2 := u64_twice o.k
  have hb1 : K1 K w wb w.heap.size := .inr ⟨Nat.le_refl _, HBL.out⟩
  have HB1 := Aside0.mk hb1
  clear hP3 hK3 hb1
  rcases HKK.out with ⟨hj, hx1, hx2⟩ | ⟨hj, hx1, hx2⟩ | ⟨hj, hx1, hx2⟩
  · rw [hj] at hm
    have HX := Aside0.mk (And.intro hx1 hx2)
    have hd3 : Below w3.heap.size w3 w3.drew := ⟨rfl, rfl, rfl, Nat.le_refl _, fun _ _ => rfl⟩
    have HPd := Aside0.mk ((HP3.out.below hd3).mono fun _ hk => .inl hk : Pair (K1 K w wb) st b st2 b2 w3.drew)
    have HKd := Aside0.mk (Kf.of_below hd3 HP3.out.lt)
    clear hj hx1 hx2 hd3
    go_wp2_with (fail)
    go_region_held3 (fun wx => wx.cell? ⟨w.heap.size, 3, none⟩ = some (.int .i64 o.n)) (first | exact p3 | exact r3 | exact t3 | go_keep) (first
      | (go_at_call 35; refine (pair_cut HPd.out HS.out (nameI o.a) (nameI_size _) o.n).mono ?_; rintro e w4 ⟨rfl, hP4, hK4⟩; have r3 : w4.cell? ⟨w.heap.size, 3, none⟩ = some (.int .i64 o.n) := (hK4.cell (p := ⟨w.heap.size, 3, none⟩) HB1.out).trans p3; have HP4 := Aside0.mk hP4; have HK4 := Aside0.mk hK4; clear hP4 hK4)
      | (go_at_call 36; refine (pair_cut2 HP4.out HS2.out (nameI o.a) o.n).mono ?_; rintro e w5 ⟨rfl, hP5, hK5⟩; have t3 : w5.cell? ⟨w.heap.size, 3, none⟩ = some (.int .i64 o.n) := (hK5.cell (p := ⟨w.heap.size, 3, none⟩) HB1.out).trans r3; have HP5 := Aside0.mk hP5; have HK5 := Aside0.mk hK5; clear hP5 hK5))
    go_wp2_with (fail)
    go_ret
    rw [HX.out.1, HX.out.2]
    exact ⟨rfl, HP5.out.mono fun _ hk => .inl hk, k1_kf HBW.out HP.out.lt (((HK3.out.trans HKd.out).trans HK4.out).trans HK5.out)⟩
  · rw [hj] at hm
    have HX := Aside0.mk (And.intro hx1 hx2)
    clear hj hx1 hx2
    go_wp2_with (fail)
    refine (pair_crash HP3.out o.n).mono ?_
    rintro e w4 ⟨rfl, hP4, hK4⟩
    have HP4 := Aside0.mk hP4
    have HK4 := Aside0.mk hK4
    have r3 : w4.cell? ⟨w.heap.size, 3, none⟩ = some (.int .i64 o.n) := (hK4.cell (p := ⟨w.heap.size, 3, none⟩) HB1.out).trans p3
    clear hP4 hK4
    go_wp2_with (fail)
    refine (pair_crash2 HP4.out HS2.out o.n).mono ?_
    rintro e w5 ⟨rfl, hP5, hK5⟩
    have HP5 := Aside0.mk hP5
    have HK5 := Aside0.mk hK5
    clear hP5 hK5
    go_wp2_with (fail)
    go_ret
    rw [HX.out.1, HX.out.2]
    exact ⟨rfl, HP5.out.mono fun _ hk => .inl hk, k1_kf HBW.out HP.out.lt ((HK3.out.trans HK4.out).trans HK5.out)⟩
  · rw [hj] at hm
    have HX := Aside0.mk (And.intro hx1 hx2)
    clear hj hx1 hx2
    go_wp2_with (fail)
    refine (pair_fail HP3.out o.n HN.out).mono ?_
    rintro e w4 ⟨rfl, hP4, hK4⟩
    have HP4 := Aside0.mk hP4
    have HK4 := Aside0.mk hK4
    have r3 : w4.cell? ⟨w.heap.size, 3, none⟩ = some (.int .i64 o.n) := (hK4.cell (p := ⟨w.heap.size, 3, none⟩) HB1.out).trans p3
    clear hP4 hK4
    go_wp2_with (fail)
    refine (pair_fail2 HP4.out o.n HN.out).mono ?_
    rintro e w5 ⟨rfl, hP5, hK5⟩
    have HP5 := Aside0.mk hP5
    have HK5 := Aside0.mk hK5
    clear hP5 hK5
    go_wp2_with (fail)
    go_ret
    rw [HX.out.1, HX.out.2]
    exact ⟨rfl, HP5.out.mono fun _ hk => .inl hk, k1_kf HBW.out HP.out.lt ((HK3.out.trans HK4.out).trans HK5.out)⟩
end
end Go.Proofs.Ytcaipccgphblnaa.Dk
