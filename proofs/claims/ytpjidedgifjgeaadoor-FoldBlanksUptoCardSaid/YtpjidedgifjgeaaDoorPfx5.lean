-- Written by a program of this session (wip/extprint.py) over the kit's print. Not trusted: Lean checks it.
import Derived.Test.YtpjidedgifjgeaaDoorPfx0
import Derived.Test.YtpjidedgifjgeaaDoorPfx1
import Derived.Test.YtpjidedgifjgeaaDoorPfx3
import Derived.Test.YtpjidedgifjgeaaDoorPfx4
namespace Go.Proofs.YtpjidedgifjgeaaDoor.Pf
open Go.RowKit Go.Proofs.YtpjidedgifjgeaaDoorW.PrintWords Go.Proofs.YtpjidedgifjgeaaDoorW.PrintLast Go.Proofs.YtpjidedgifjgeaaDoorW.PrintMore
attribute [local go_sem] max2_int min2_int max_two min_two max_three min_three max_four min_four   -- for this text's walks alone
set_option linter.unusedVariables false
set_option linter.unusedSimpArgs false

/-! ### calepinlaw02_FoldRows: function 4 -/
mutual
def calepinlaw02_FoldRows.j0 : Nat → ByteArray → Bool → Option (Bool)
  | 0, _, _ => none
  | k + 1, x0, x16 => if x16 = true then (some true) else ((fold_Fold.f (([x0] : List ByteArray))).bind fun t166 => (calepinlaw02_FoldRows.l0 k t166 0 0))
def calepinlaw02_FoldRows.l0 : Nat → ByteArray → Int → Int → Option (Bool)
  | 0, _, _, _ => none
  | k + 1, x3, x4, x5 => if (wrap64 (x5 + 1)) < (x3.size : Int) then (if 0 ≤ x5 then (if x5 < (x3.size : Int) then (if (bt x3 x5) = 13 then (if 0 ≤ (wrap64 (x5 + 1)) then (calepinlaw02_FoldRows.j2 k x3 x4 x5 ((bt x3 (wrap64 (x5 + 1))) != 10)) else (none)) else (calepinlaw02_FoldRows.j2 k x3 x4 x5 true)) else (none)) else (none)) else (some (x4 == (x3.size : Int)))
def calepinlaw02_FoldRows.j2 : Nat → ByteArray → Int → Int → Bool → Option (Bool)
  | 0, _, _, _, _ => none
  | k + 1, x3, x4, x5, x37 => if x37 = true then (calepinlaw02_FoldRows.l0 k x3 x4 (wrap64 (x5 + 1))) else (if 0 ≤ x4 then (if x4 ≤ x5 then (if x5 ≤ (x3.size : Int) then ((some (x3.extract (x4 : Int).toNat (x5 : Int).toNat : ByteArray)).bind fun y167 => (if (y167.size : Int) > 75 then (some false) else (if (wrap64 (x5 + 2)) < (x3.size : Int) then (if 0 ≤ (wrap64 ((wrap64 (x5 + 2)) + 1)) then (if (wrap64 ((wrap64 (x5 + 2)) + 1)) ≤ (x3.size : Int) then ((calepinref02_Size.f k (x3.extract ((wrap64 ((wrap64 (x5 + 2)) + 1)) : Int).toNat x3.size)).bind fun t169 => (if (wrap64 ((y167.size : Int) + t169)) ≤ 75 then (some false) else (calepinlaw02_FoldRows.l0 k x3 (wrap64 (x5 + 2)) (wrap64 (x5 + 1))))) else (none)) else (none)) else (calepinlaw02_FoldRows.l0 k x3 (wrap64 (x5 + 2)) (wrap64 (x5 + 1)))))) else (none)) else (none)) else (none))
end
def calepinlaw02_FoldRows.f (k : Nat) (a0 : ByteArray) : Option (Bool) := (calepinlaw02_first.f k).bind fun t161 => (if t161 = true then (if (a0.size : Int) > 3000 then (calepinlaw02_FoldRows.j0 k a0 true) else ((calepinref02_Good.f k a0).bind fun t162 => (calepinlaw02_FoldRows.j0 k a0 (!t162)))) else (some false))
theorem calepinlaw02_FoldRows.mono_l : ∀ k, (∀ y0 y1, LeO (calepinlaw02_FoldRows.j0 k y0 y1) (calepinlaw02_FoldRows.j0 (k + 1) y0 y1)) ∧ (∀ y0 y1 y2, LeO (calepinlaw02_FoldRows.l0 k y0 y1 y2) (calepinlaw02_FoldRows.l0 (k + 1) y0 y1 y2)) ∧ (∀ y0 y1 y2 y3, LeO (calepinlaw02_FoldRows.j2 k y0 y1 y2 y3) (calepinlaw02_FoldRows.j2 (k + 1) y0 y1 y2 y3))
  | 0 => ⟨fun _ _ r h => by simp [calepinlaw02_FoldRows.j0] at h, fun _ _ _ r h => by simp [calepinlaw02_FoldRows.l0] at h, fun _ _ _ _ r h => by simp [calepinlaw02_FoldRows.j2] at h⟩
  | k + 1 => by
    obtain ⟨ih0, ih1, ih2⟩ := calepinlaw02_FoldRows.mono_l k
    refine ⟨?_, ?_, ?_⟩
    · intro y0 y1
      unfold calepinlaw02_FoldRows.j0
      repeat' first
      | (with_reducible exact ih0 _ _)
      | (with_reducible exact ih1 _ _ _)
      | (with_reducible exact ih2 _ _ _ _)
      | (with_reducible exact calepinlaw02_first.mono _)
      | (with_reducible exact calepinref02_Good.mono _ _)
      | (with_reducible exact calepinref02_Size.mono _ _)
      | (with_reducible exact LeO.refl _)
      | (with_reducible exact LeO.none _)
      | (with_reducible refine LeO.ite ?_ ?_)
      | (with_reducible refine LeO.bind ?_ (fun _ => ?_))
      | exact ih0 _ _
      | exact ih1 _ _ _
      | exact ih2 _ _ _ _
      | exact calepinlaw02_first.mono _
      | exact calepinref02_Good.mono _ _
      | exact calepinref02_Size.mono _ _
      | exact LeO.none _
      | refine LeO.ite ?_ ?_
      | refine LeO.bind ?_ (fun _ => ?_)
    · intro y0 y1 y2
      unfold calepinlaw02_FoldRows.l0
      repeat' first
      | (with_reducible exact ih0 _ _)
      | (with_reducible exact ih1 _ _ _)
      | (with_reducible exact ih2 _ _ _ _)
      | (with_reducible exact calepinlaw02_first.mono _)
      | (with_reducible exact calepinref02_Good.mono _ _)
      | (with_reducible exact calepinref02_Size.mono _ _)
      | (with_reducible exact LeO.refl _)
      | (with_reducible exact LeO.none _)
      | (with_reducible refine LeO.ite ?_ ?_)
      | (with_reducible refine LeO.bind ?_ (fun _ => ?_))
      | exact ih0 _ _
      | exact ih1 _ _ _
      | exact ih2 _ _ _ _
      | exact calepinlaw02_first.mono _
      | exact calepinref02_Good.mono _ _
      | exact calepinref02_Size.mono _ _
      | exact LeO.none _
      | refine LeO.ite ?_ ?_
      | refine LeO.bind ?_ (fun _ => ?_)
    · intro y0 y1 y2 y3
      unfold calepinlaw02_FoldRows.j2
      repeat' first
      | (with_reducible exact ih0 _ _)
      | (with_reducible exact ih1 _ _ _)
      | (with_reducible exact ih2 _ _ _ _)
      | (with_reducible exact calepinlaw02_first.mono _)
      | (with_reducible exact calepinref02_Good.mono _ _)
      | (with_reducible exact calepinref02_Size.mono _ _)
      | (with_reducible exact LeO.refl _)
      | (with_reducible exact LeO.none _)
      | (with_reducible refine LeO.ite ?_ ?_)
      | (with_reducible refine LeO.bind ?_ (fun _ => ?_))
      | exact ih0 _ _
      | exact ih1 _ _ _
      | exact ih2 _ _ _ _
      | exact calepinlaw02_first.mono _
      | exact calepinref02_Good.mono _ _
      | exact calepinref02_Size.mono _ _
      | exact LeO.none _
      | refine LeO.ite ?_ ?_
      | refine LeO.bind ?_ (fun _ => ?_)
theorem calepinlaw02_FoldRows.mono : ∀ a0 k, LeO (calepinlaw02_FoldRows.f k a0) (calepinlaw02_FoldRows.f (k + 1) a0) := by
  intro a0 k
  obtain ⟨ih0, ih1, ih2⟩ := calepinlaw02_FoldRows.mono_l k
  unfold calepinlaw02_FoldRows.f
  repeat' first
      | (with_reducible exact ih0 _ _)
      | (with_reducible exact ih1 _ _ _)
      | (with_reducible exact ih2 _ _ _ _)
      | (with_reducible exact calepinlaw02_first.mono _)
      | (with_reducible exact calepinref02_Good.mono _ _)
      | (with_reducible exact calepinref02_Size.mono _ _)
      | (with_reducible exact LeO.refl _)
      | (with_reducible exact LeO.none _)
      | (with_reducible refine LeO.ite ?_ ?_)
      | (with_reducible refine LeO.bind ?_ (fun _ => ?_))
      | exact ih0 _ _
      | exact ih1 _ _ _
      | exact ih2 _ _ _ _
      | exact calepinlaw02_first.mono _
      | exact calepinref02_Good.mono _ _
      | exact calepinref02_Size.mono _ _
      | exact LeO.none _
      | refine LeO.ite ?_ ?_
      | refine LeO.bind ?_ (fun _ => ?_)
set_option maxHeartbeats 8000000 in
set_option maxRecDepth 100000 in
theorem calepinlaw02_FoldRows.calls (k : Nat) (a0 : ByteArray) (r : Bool) (w : World) (hE : Env w) (h : calepinlaw02_FoldRows.f k a0 = some r) :
    Calls Tryd.prog 4 #[.string a0] w fun e w' => e = .returned (.bool r) ∧ Below w.heap.size w w' := by
  have HE := Aside0.mk hE
  clear hE
  have HB := Aside0.mk (Below.refl w.heap.size w)
  have H : ((calepinlaw02_first.f k).bind fun t161 => (if t161 = true then (if (a0.size : Int) > 3000 then (calepinlaw02_FoldRows.j0 k a0 true) else ((calepinref02_Good.f k a0).bind fun t162 => (calepinlaw02_FoldRows.j0 k a0 (!t162)))) else (some false))) = some r := h
  clear h
  replace H := Option.bind_eq_some_iff.mp H
  obtain ⟨t161, A20, H⟩ := H
  replace H : (if t161 = true then (if (a0.size : Int) > 3000 then (calepinlaw02_FoldRows.j0 k a0 true) else ((calepinref02_Good.f k a0).bind fun t162 => (calepinlaw02_FoldRows.j0 k a0 (!t162)))) else (some false)) = some r := H
  have A2 := Aside0.mk A20
  clear A20
  by_cases c3 : t161 = true
  · subst c3
    have H1 : (if (a0.size : Int) > 3000 then (calepinlaw02_FoldRows.j0 k a0 true) else ((calepinref02_Good.f k a0).bind fun t162 => (calepinlaw02_FoldRows.j0 k a0 (!t162)))) = some r := by rw [if_pos rfl] at H; exact H
    clear H
    have H := H1
    clear H1
    have HC4 := Aside0.mk H
    clear H
    go_enter Tryd.func4, Tryd.ntmps4
    go_upto_region 3 with (first | ((with_reducible refine gate_callee (f := 8) rfl ?_); refine goesL_ (some 7) rfl rfl Tryd.func8 (by kernel_rfl) rfl #[] rfl (by (try simp only [List.map_toArray, List.map_cons, List.map_nil]); first | done | rfl | (simp only [List.length_drop, List.length_take]; rfl)) ?_; (with_reducible refine (calepinlaw02_first.calls k  true _ (env_at HE.out (by repeat (first | (with_reducible first | exact HB.out | apply below_alloc | apply pw_below_drewN | apply below_drew1) | exact HB.out))) A2.out).mono ?_); rintro e w5 ⟨rfl, hb⟩; refine ⟨_, rfl, ?_⟩; have n0_ := Aside0.mk (below_step (by repeat (first | (with_reducible first | exact HB.out | apply below_alloc | apply pw_below_drewN | apply below_drew1) | exact HB.out)) hb); clear HB; have HB := n0_; clear n0_; (try clear hb); (try clear hb2); (try clear hk); (try clear hi)))
    (try simp only [Act.put, List.setIfInBounds_toArray, List.set_cons_zero, List.set_cons_succ])
    go_cut [16] (fun v16 wc => ∃ (kq : Nat) (x16_3 : Bool), v16 = .bool x16_3 ∧ Aside0 (calepinlaw02_FoldRows.j0 kq a0 x16_3 = some r) ∧ Aside0 (kq ≤ k) ∧ Aside0 (Below w.heap.size w wc))
    case first =>
      have H := HC4.out
      clear HC4
      by_cases c6 : (a0.size : Int) > 3000
      · rw [if_pos c6] at H
        have c6b0 : decide (3000 < (a0.size : Int)) = true := decide_eq_true c6
        have c6b1 : decide (3000 < a0.size) = true := decide_eq_true (by omega)
        clear c6
        (first | rw [c6b0] | (simp only [i64_w, i32_w]; rw [c6b0]) | skip)
        have H' := Aside0.mk H
        clear H
        go_wp2
        go_meet
        case rel => exact ⟨_, (true), (by first | rfl | (simp; done) | (simp [*]; done)), H', ⟨by first | omega | exact Nat.le_refl _⟩, ⟨by repeat (first | (with_reducible first | exact HB.out | apply below_alloc | apply pw_below_drewN | apply below_drew1) | exact HB.out)⟩⟩
      · rw [if_neg c6] at H
        have c6b0 : decide (3000 < (a0.size : Int)) = false := decide_eq_false c6
        have c6b1 : decide (3000 < a0.size) = false := decide_eq_false (by omega)
        clear c6
        (first | rw [c6b0] | (simp only [i64_w, i32_w]; rw [c6b0]) | skip)
        replace H := Option.bind_eq_some_iff.mp H
        obtain ⟨t162, A70, H⟩ := H
        replace H : (calepinlaw02_FoldRows.j0 k a0 (!t162)) = some r := H
        have A7 := Aside0.mk A70
        clear A70
        have H' := Aside0.mk H
        clear H
        go_wp2_with (first | (go_at_call 11; (with_reducible refine (calepinref02_Good.calls k a0 t162 _ A7.out).mono ?_); rintro e w' ⟨rfl, ⟨nd, rfl⟩⟩))
        go_meet
        case rel => exact ⟨_, (!t162), (by first | rfl | (simp; done) | (simp [*]; done)), H', ⟨by first | omega | exact Nat.le_refl _⟩, ⟨by repeat (first | (with_reducible first | exact HB.out | apply below_alloc | apply pw_below_drewN | apply below_drew1) | exact HB.out)⟩⟩
    case rest =>
      clear HC4
      try clear p2
      try clear c3
      try clear c4
      try clear c6
      try clear c6b0
      try clear c6b1
      obtain ⟨kq, x16_3, rfl, HA, HJ3, HB⟩ := hcut
      cases kq with
      | zero => exact absurd HA.out (by simp [calepinlaw02_FoldRows.j0])
      | succ kj3 =>
        have H := HA.out
        clear HA
        simp only [calepinlaw02_FoldRows.j0] at H
        by_cases c8 : x16_3 = true
        · subst c8
          have H1 : (some true) = some r := by rw [if_pos rfl] at H; exact H
          clear H
          have H := H1
          clear H1
          obtain rfl := Option.some.inj H
          go_wp2
          go_ret
          exact ⟨by first | rfl | (simp [errW_none, errW_some] <;> rfl) | (simp [*, errW_none, errW_some] <;> rfl), by repeat (first | (with_reducible first | exact HB.out | apply below_alloc | apply pw_below_drewN | apply below_drew1) | exact HB.out)⟩
        · replace c8 := Bool.eq_false_iff.mpr c8
          subst c8
          have H1 : ((fold_Fold.f (([a0] : List ByteArray))).bind fun t166 => (calepinlaw02_FoldRows.l0 kj3 t166 0 0)) = some r := by rw [if_neg (show ¬ (false = true) by decide)] at H; exact H
          clear H
          have H := H1
          clear H1
          obtain ⟨y163, hy163⟩ : ∃ y_ : List ByteArray, y_ = (([a0] : List ByteArray)) := ⟨_, rfl⟩
          replace H : ((fold_Fold.f y163).bind fun t166 => (calepinlaw02_FoldRows.l0 kj3 t166 0 0)) = some r := by first | (rw [hy163]; with_reducible exact H) | (have H2_ := (Option.bind_some _ _).symm.trans H; rw [hy163]; with_reducible exact H2_) | (have H2_ := (Option.bind_some _ _).symm.trans H; with_reducible exact H2_) | with_reducible exact H | (rw [hy163]; exact H) | exact H
          have Ny163 := Aside0.mk hy163
          clear hy163
          replace H := Option.bind_eq_some_iff.mp H
          obtain ⟨t166, A90, H⟩ := H
          replace H : (calepinlaw02_FoldRows.l0 kj3 t166 0 0) = some r := H
          have A9 := Aside0.mk A90
          clear A90
          have H' := Aside0.mk H
          clear H
          go_wp2_with (first | ((with_reducible refine gate_dst (N := 18) rfl ?_); (try (refine gate_guard (by rfl) ?_; dsimp only)); refine Kd.R_lit Kd.string _ 9 ?hg (N := 18) ?hd (xs := ([a0] : List ByteArray)) (inner := [.string a0]) (ok := fun _ => True) (okp := fun _ => True) ?hr ?hp (fun _ hk => hk) trivial (Below.refl _ _) (Nat.le_refl _) (by simp) ?_; (case hd => rfl); (case hg => rfl); (case hr => first | (go_simp; done) | (go_simp; rfl)); (case hp => exact (Reps.one (show Kd.M Kd.string _ _ _ a0 [.string a0] from rfl) (Reps.none _ _))); intro v164 w10 ho11 hb hg_ hnew_; clear hg_ hnew_; (first | rw [← Ny163.out] at ho11 | (simp only [Int.reduceToNat] at ho11; rw [← Ny163.out] at ho11)); have n0_ := Aside0.mk (Kd.R_lower ho11 (below_size (by repeat (first | (with_reducible first | exact HB.out | apply below_alloc | apply pw_below_drewN | apply below_drew1) | exact HB.out)))); have n1_ := Aside0.mk (below_step (by repeat (first | (with_reducible first | exact HB.out | apply below_alloc | apply pw_below_drewN | apply below_drew1) | exact HB.out)) hb); clear HB; have HO165 := n0_; have HB := n1_; clear n0_ n1_; clear hb ho11; obtain ⟨Ao12, co12, eo12⟩ := Kd.R_slice HO165.out; subst eo12) | ((with_reducible refine gate_callee (f := 12) rfl ?_); refine goesL_ (some 19) rfl rfl Tryd.func12 (by kernel_rfl) rfl #[.slice Ao12 y163.length co12] rfl (by (try simp only [List.map_toArray, List.map_cons, List.map_nil]); first | done | rfl | (simp only [List.length_drop, List.length_take]; rfl)) ?_; (with_reducible refine (fold_Fold.calls _ _ y163 t166 _ ?side1 ?side2 (env_at HE.out (by repeat (first | (with_reducible first | exact HB.out | apply below_alloc | apply pw_below_drewN | apply below_drew1) | exact HB.out))) A9.out).mono ?_); (case side1 => repeat (first | exact (Kd.R_reads' HO165.out).2.2 | (with_reducible refine Kd.C_alloc ?_ _) | (with_reducible refine Kd.C_drewN ?_ _) | (with_reducible refine Kd.C_drew ?_))); (case side2 => exact (Kd.R_reads' HO165.out).2.1); rintro e w13 ⟨rfl, hb⟩; refine ⟨_, rfl, ?_⟩; have n0_ := Aside0.mk (Kd.R_below (by (with_reducible repeat (first | apply Kd.R_alloc | apply Kd.R_drewN | apply Kd.R_drew)); exact HO165.out) hb); have n1_ := Aside0.mk (below_step (by repeat (first | (with_reducible first | exact HB.out | apply below_alloc | apply pw_below_drewN | apply below_drew1) | exact HB.out)) hb); clear HO165; clear HB; have HO165 := n0_; have HB := n1_; clear n0_ n1_; (try clear hb); (try clear hb2); (try clear hk); (try clear hi)))
          go_loopg [4, 5] kj3 (fun kq v4 v5 w' => ∃ (x4_2 : Int) (x5_2 : Int), v4 = .int .i64 x4_2 ∧ v5 = .int .i64 x5_2 ∧ Aside0 (calepinlaw02_FoldRows.l0 kq t166 x4_2 x5_2 = some r) ∧ Aside0 (kq ≤ kj3) ∧ Aside0 (Below w.heap.size w w'))
          case atStart => exact ⟨(0), (0), (by first | rfl | (simp; done) | (simp [*]; done)), (by first | rfl | (simp; done) | (simp [*]; done)), H', ⟨Nat.le_refl _⟩, ⟨by repeat (first | (with_reducible first | exact HB.out | apply below_alloc | apply pw_below_drewN | apply below_drew1) | exact HB.out)⟩⟩
          case round =>
            clear H'
            try clear c1
            try clear p2
            try clear c3
            try clear c4
            try clear c6
            try clear c6b0
            try clear c6b1
            try clear c8
            try clear c12
            try clear p2
            obtain ⟨x4_2, x5_2, rfl, rfl, HA, HK2, HB⟩ := hrel
            cases gk with
            | zero => exact absurd HA.out (by simp [calepinlaw02_FoldRows.l0])
            | succ k2 =>
              have H := HA.out
              clear HA
              simp only [calepinlaw02_FoldRows.l0] at H
              by_cases c14 : (wrap64 (x5_2 + 1)) < (t166.size : Int)
              · rw [if_pos c14] at H
                have c14b0 : decide ((wrap64 (x5_2 + 1)) < (t166.size : Int)) = true := decide_eq_true c14
                clear c14
                have HC15 := Aside0.mk H
                clear H
                go_upto_region 10 with (fail)
                go_cut [37] (fun v37 wc => ∃ (kq : Nat) (x37_14 : Bool), v37 = .bool x37_14 ∧ Aside0 (calepinlaw02_FoldRows.j2 kq t166 x4_2 x5_2 x37_14 = some r) ∧ Aside0 (kq ≤ k2) ∧ Aside0 (Below w.heap.size w wc))
                case first =>
                  have H := HC15.out
                  clear HC15
                  by_cases c16 : 0 ≤ x5_2
                  · rw [if_pos c16] at H
                    have c16b0 : decide (0 ≤ x5_2) = true := decide_eq_true c16
                    clear c16
                    (first | rw [c16b0] | (simp only [i64_w, i32_w]; rw [c16b0]) | skip)
                    by_cases c17 : x5_2 < (t166.size : Int)
                    · rw [if_pos c17] at H
                      have c17b0 : decide (x5_2 < (t166.size : Int)) = true := decide_eq_true c17
                      clear c17
                      by_cases c19 : (bt t166 x5_2) = 13
                      · rw [if_pos c19] at H
                        have c19b0 : ((bt t166 x5_2) == 13) = true := beq_iff_eq.mpr c19
                        have c19b1 : ((bt t166 x5_2) != 13) = false := bne_eq_false_iff_eq.mpr c19
                        clear c19
                        obtain ⟨ji20, hji20⟩ : ∃ j_ : Int, (wrap64 (x5_2 + 1)) = j_ := ⟨_, rfl⟩
                        replace H : (if 0 ≤ (ji20) then (calepinlaw02_FoldRows.j2 k2 t166 x4_2 x5_2 ((bt t166 (ji20)) != 10)) else (none)) = some r := by first | (rw [hji20] at H; exact H) | (simp only [hji20] at H ⊢; exact H)
                        (try rw [hji20] at c14b0)
                        have hji20w : (IntKind.i64.wrap (x5_2 + 1)) = ji20 := (i64_w _).trans hji20
                        by_cases c21 : 0 ≤ (ji20)
                        · rw [if_pos c21] at H
                          have c21b0 : decide (0 ≤ (ji20)) = true := decide_eq_true c21
                          clear c21
                          have H' := Aside0.mk H
                          clear H
                          have p18 : 0 ≤ (x5_2 : Int) := of_decide_eq_true (by first | (with_reducible assumption) | assumption)
                          have q18 : x5_2 < (t166.size : Int) := of_decide_eq_true (by first | (with_reducible assumption) | assumption)
                          have hx18 := bt_at t166 x5_2
                          replace p18 := eq_true p18
                          replace q18 := eq_true q18
                          have p22 : 0 ≤ ((ji20) : Int) := of_decide_eq_true (by first | (with_reducible assumption) | assumption)
                          have q22 : (ji20) < (t166.size : Int) := of_decide_eq_true (by first | (with_reducible assumption) | assumption)
                          have hx22 := bt_at t166 (ji20)
                          replace p22 := eq_true p22
                          replace q22 := eq_true q22
                          go_wp2
                          go_meet
                          case rel => exact ⟨_, (((bt t166 (ji20)) != 10)), (by first | rfl | (simp; done) | (simp only [← hji20] <;> (first | rfl | simp)) | (simp [*]; done)), H', ⟨by have := HJ3.out; have := HK2.out; first | omega | exact Nat.le_refl _⟩, ⟨by repeat (first | (with_reducible first | exact HB.out | apply below_alloc | apply pw_below_drewN | apply below_drew1) | exact HB.out)⟩⟩
                        · rw [if_neg c21] at H
                          exact absurd H (by simp)
                      · rw [if_neg c19] at H
                        have c19b0 : ((bt t166 x5_2) == 13) = false := beq_eq_false_iff_ne.mpr c19
                        have c19b1 : ((bt t166 x5_2) != 13) = true := bne_iff_ne.mpr c19
                        have H' := Aside0.mk H
                        clear H
                        have p18 : 0 ≤ (x5_2 : Int) := of_decide_eq_true (by first | (with_reducible assumption) | assumption)
                        have q18 : x5_2 < (t166.size : Int) := of_decide_eq_true (by first | (with_reducible assumption) | assumption)
                        have hx18 := bt_at t166 x5_2
                        replace p18 := eq_true p18
                        replace q18 := eq_true q18
                        go_wp2
                        go_meet
                        case rel => exact ⟨_, (true), (by first | rfl | (simp; done) | (simp [*]; done)), H', ⟨by have := HJ3.out; have := HK2.out; first | omega | exact Nat.le_refl _⟩, ⟨by repeat (first | (with_reducible first | exact HB.out | apply below_alloc | apply pw_below_drewN | apply below_drew1) | exact HB.out)⟩⟩
                    · rw [if_neg c17] at H
                      exact absurd H (by simp)
                  · rw [if_neg c16] at H
                    exact absurd H (by simp)
                case rest =>
                  clear HC15
                  try clear c1
                  try clear p1
                  try clear q1
                  try clear hx1
                  try clear c2
                  try clear p2
                  try clear q2
                  try clear hx2
                  try clear c3
                  try clear c4
                  try clear c6
                  try clear c6b0
                  try clear c6b1
                  try clear p6
                  try clear c8
                  try clear c12
                  try clear c14
                  try clear c14b0
                  try clear c16
                  try clear c16b0
                  try clear c17
                  try clear c17b0
                  try clear p18
                  try clear q18
                  try clear hx18
                  try clear c19
                  try clear c19b0
                  try clear c19b1
                  try clear c21
                  try clear c21b0
                  try clear p22
                  try clear q22
                  try clear hx22
                  try clear p18
                  try clear p2
                  try clear p22
                  try clear q18
                  try clear q22
                  obtain ⟨kq, x37_14, rfl, HA, HJ14, HB⟩ := hcut
                  cases kq with
                  | zero => exact absurd HA.out (by simp [calepinlaw02_FoldRows.j2])
                  | succ kj14 =>
                    have H := HA.out
                    clear HA
                    simp only [calepinlaw02_FoldRows.j2] at H
                    by_cases c23 : x37_14 = true
                    · subst c23
                      have H1 : (calepinlaw02_FoldRows.l0 kj14 t166 x4_2 (wrap64 (x5_2 + 1))) = some r := by rw [if_pos rfl] at H; exact H
                      clear H
                      have H := H1
                      clear H1
                      have H' := Aside0.mk H
                      clear H
                      go_wp2
                      go_roundg kj14
                      case measure => have := HJ3.out; have := HK2.out; have := HJ14.out; omega
                      case rel => exact ⟨(x4_2), (wrap64 (x5_2 + 1)), (by first | rfl | (simp; done) | (simp [*]; done)), (by first | rfl | (simp; done) | (simp [*]; done)), H', ⟨by have := HJ3.out; have := HK2.out; have := HJ14.out; omega⟩, ⟨by repeat (first | (with_reducible first | exact HB.out | apply below_alloc | apply pw_below_drewN | apply below_drew1) | exact HB.out)⟩⟩
                    · replace c23 := Bool.eq_false_iff.mpr c23
                      subst c23
                      have H1 : (if 0 ≤ x4_2 then (if x4_2 ≤ x5_2 then (if x5_2 ≤ (t166.size : Int) then ((some (t166.extract (x4_2 : Int).toNat (x5_2 : Int).toNat : ByteArray)).bind fun y167 => (if (y167.size : Int) > 75 then (some false) else (if (wrap64 (x5_2 + 2)) < (t166.size : Int) then (if 0 ≤ (wrap64 ((wrap64 (x5_2 + 2)) + 1)) then (if (wrap64 ((wrap64 (x5_2 + 2)) + 1)) ≤ (t166.size : Int) then ((calepinref02_Size.f kj14 (t166.extract ((wrap64 ((wrap64 (x5_2 + 2)) + 1)) : Int).toNat t166.size)).bind fun t169 => (if (wrap64 ((y167.size : Int) + t169)) ≤ 75 then (some false) else (calepinlaw02_FoldRows.l0 kj14 t166 (wrap64 (x5_2 + 2)) (wrap64 (x5_2 + 1))))) else (none)) else (none)) else (calepinlaw02_FoldRows.l0 kj14 t166 (wrap64 (x5_2 + 2)) (wrap64 (x5_2 + 1)))))) else (none)) else (none)) else (none)) = some r := by rw [if_neg (show ¬ (false = true) by decide)] at H; exact H
                      clear H
                      have H := H1
                      clear H1
                      by_cases c24 : 0 ≤ x4_2
                      · rw [if_pos c24] at H
                        have c24b0 := eq_true c24
                        have c24b1 : decide (0 ≤ x4_2) = true := decide_eq_true c24
                        clear c24
                        by_cases c25 : x4_2 ≤ x5_2
                        · rw [if_pos c25] at H
                          have c25b0 := eq_true c25
                          have c25b1 : decide (x4_2 ≤ x5_2) = true := decide_eq_true c25
                          clear c25
                          by_cases c26 : x5_2 ≤ (t166.size : Int)
                          · rw [if_pos c26] at H
                            have c26b0 := eq_true c26
                            have c26b1 : decide (x5_2 ≤ (t166.size : Int)) = true := decide_eq_true c26
                            clear c26
                            obtain ⟨y167, hy167⟩ : ∃ y_ : ByteArray, y_ = (t166.extract (x4_2 : Int).toNat (x5_2 : Int).toNat) := ⟨_, rfl⟩
                            replace H : (if (y167.size : Int) > 75 then (some false) else (if (wrap64 (x5_2 + 2)) < (t166.size : Int) then (if 0 ≤ (wrap64 ((wrap64 (x5_2 + 2)) + 1)) then (if (wrap64 ((wrap64 (x5_2 + 2)) + 1)) ≤ (t166.size : Int) then ((calepinref02_Size.f kj14 (t166.extract ((wrap64 ((wrap64 (x5_2 + 2)) + 1)) : Int).toNat t166.size)).bind fun t169 => (if (wrap64 ((y167.size : Int) + t169)) ≤ 75 then (some false) else (calepinlaw02_FoldRows.l0 kj14 t166 (wrap64 (x5_2 + 2)) (wrap64 (x5_2 + 1))))) else (none)) else (none)) else (calepinlaw02_FoldRows.l0 kj14 t166 (wrap64 (x5_2 + 2)) (wrap64 (x5_2 + 1))))) = some r := by first | (rw [hy167]; with_reducible exact H) | (have H2_ := (Option.bind_some _ _).symm.trans H; rw [hy167]; with_reducible exact H2_) | (have H2_ := (Option.bind_some _ _).symm.trans H; with_reducible exact H2_) | with_reducible exact H | (rw [hy167]; exact H) | exact H
                            have Ny167 := Aside0.mk hy167
                            clear hy167
                            have sy167 := Ny167.out.symm
                            by_cases c27 : (y167.size : Int) > 75
                            · rw [if_pos c27] at H
                              have c27b0 : decide (75 < (y167.size : Int)) = true := decide_eq_true c27
                              have c27b1 : decide (75 < y167.size) = true := decide_eq_true (by omega)
                              clear c27
                              obtain rfl := Option.some.inj H
                              go_wp2
                              go_ret
                              exact ⟨by first | rfl | (simp [errW_none, errW_some] <;> rfl) | (simp [*, errW_none, errW_some] <;> rfl), by repeat (first | (with_reducible first | exact HB.out | apply below_alloc | apply pw_below_drewN | apply below_drew1) | exact HB.out)⟩
                            · rw [if_neg c27] at H
                              have c27b0 : decide (75 < (y167.size : Int)) = false := decide_eq_false c27
                              have c27b1 : decide (75 < y167.size) = false := decide_eq_false (by omega)
                              clear c27
                              by_cases c28 : (wrap64 (x5_2 + 2)) < (t166.size : Int)
                              · rw [if_pos c28] at H
                                have c28b0 : decide ((wrap64 (x5_2 + 2)) < (t166.size : Int)) = true := decide_eq_true c28
                                clear c28
                                obtain ⟨ji29, hji29⟩ : ∃ j_ : Int, (wrap64 ((wrap64 (x5_2 + 2)) + 1)) = j_ := ⟨_, rfl⟩
                                replace H : (if 0 ≤ (ji29) then (if (ji29) ≤ (t166.size : Int) then ((calepinref02_Size.f kj14 (t166.extract ((ji29) : Int).toNat t166.size)).bind fun t169 => (if (wrap64 ((y167.size : Int) + t169)) ≤ 75 then (some false) else (calepinlaw02_FoldRows.l0 kj14 t166 (wrap64 (x5_2 + 2)) (wrap64 (x5_2 + 1))))) else (none)) else (none)) = some r := by first | (rw [hji29] at H; exact H) | (simp only [hji29] at H ⊢; exact H)
                                have hji29w : (IntKind.i64.wrap ((wrap64 (x5_2 + 2)) + 1)) = ji29 := (i64_w _).trans hji29
                                by_cases c30 : 0 ≤ (ji29)
                                · rw [if_pos c30] at H
                                  have c30b0 := eq_true c30
                                  have c30b1 : decide (0 ≤ (ji29)) = true := decide_eq_true c30
                                  clear c30
                                  by_cases c31 : (ji29) ≤ (t166.size : Int)
                                  · rw [if_pos c31] at H
                                    have c31b0 := eq_true c31
                                    have c31b1 : decide ((ji29) ≤ (t166.size : Int)) = true := decide_eq_true c31
                                    clear c31
                                    obtain ⟨y168, hy168⟩ : ∃ y_ : ByteArray, y_ = (t166.extract ((ji29) : Int).toNat t166.size) := ⟨_, rfl⟩
                                    replace H : ((calepinref02_Size.f kj14 y168).bind fun t169 => (if (wrap64 ((y167.size : Int) + t169)) ≤ 75 then (some false) else (calepinlaw02_FoldRows.l0 kj14 t166 (wrap64 (x5_2 + 2)) (wrap64 (x5_2 + 1))))) = some r := by first | (rw [hy168]; with_reducible exact H) | (have H2_ := (Option.bind_some _ _).symm.trans H; rw [hy168]; with_reducible exact H2_) | (have H2_ := (Option.bind_some _ _).symm.trans H; with_reducible exact H2_) | with_reducible exact H | (rw [hy168]; exact H) | exact H
                                    have Ny168 := Aside0.mk hy168
                                    clear hy168
                                    have sy168 := Ny168.out.symm
                                    replace H := Option.bind_eq_some_iff.mp H
                                    obtain ⟨t169, A320, H⟩ := H
                                    replace H : (if (wrap64 ((y167.size : Int) + t169)) ≤ 75 then (some false) else (calepinlaw02_FoldRows.l0 kj14 t166 (wrap64 (x5_2 + 2)) (wrap64 (x5_2 + 1)))) = some r := H
                                    have A32 := Aside0.mk A320
                                    clear A320
                                    by_cases c33 : (wrap64 ((y167.size : Int) + t169)) ≤ 75
                                    · rw [if_pos c33] at H
                                      have c33b0 : decide ((wrap64 ((y167.size : Int) + t169)) ≤ 75) = true := decide_eq_true c33
                                      clear c33
                                      obtain rfl := Option.some.inj H
                                      go_wp2_with (first | (go_at_call 13; (with_reducible refine (calepinref02_Size.calls kj14 y168 t169 _ A32.out).mono ?_); rintro e w' ⟨rfl, ⟨nd, rfl⟩⟩))
                                      go_ret
                                      exact ⟨by first | rfl | (simp [errW_none, errW_some] <;> rfl) | (simp only [← hji29]; first | rfl | (simp [errW_none, errW_some] <;> rfl)) | (simp [*, errW_none, errW_some] <;> rfl), by repeat (first | (with_reducible first | exact HB.out | apply below_alloc | apply pw_below_drewN | apply below_drew1) | exact HB.out)⟩
                                    · rw [if_neg c33] at H
                                      have c33b0 : decide ((wrap64 ((y167.size : Int) + t169)) ≤ 75) = false := decide_eq_false c33
                                      clear c33
                                      have H' := Aside0.mk H
                                      clear H
                                      go_wp2_with (first | (go_at_call 13; (with_reducible refine (calepinref02_Size.calls kj14 y168 t169 _ A32.out).mono ?_); rintro e w' ⟨rfl, ⟨nd, rfl⟩⟩))
                                      go_roundg kj14
                                      case measure => have := HJ3.out; have := HK2.out; have := HJ14.out; omega
                                      case rel => exact ⟨(wrap64 (x5_2 + 2)), (wrap64 (x5_2 + 1)), (by first | rfl | (simp; done) | (simp [*]; done)), (by first | rfl | (simp; done) | (simp [*]; done)), H', ⟨by have := HJ3.out; have := HK2.out; have := HJ14.out; omega⟩, ⟨by repeat (first | (with_reducible first | exact HB.out | apply below_alloc | apply pw_below_drewN | apply below_drew1) | exact HB.out)⟩⟩
                                  · rw [if_neg c31] at H
                                    exact absurd H (by simp)
                                · rw [if_neg c30] at H
                                  exact absurd H (by simp)
                              · rw [if_neg c28] at H
                                have c28b0 : decide ((wrap64 (x5_2 + 2)) < (t166.size : Int)) = false := decide_eq_false c28
                                clear c28
                                have H' := Aside0.mk H
                                clear H
                                go_wp2
                                go_roundg kj14
                                case measure => have := HJ3.out; have := HK2.out; have := HJ14.out; omega
                                case rel => exact ⟨(wrap64 (x5_2 + 2)), (wrap64 (x5_2 + 1)), (by first | rfl | (simp; done) | (simp [*]; done)), (by first | rfl | (simp; done) | (simp [*]; done)), H', ⟨by have := HJ3.out; have := HK2.out; have := HJ14.out; omega⟩, ⟨by repeat (first | (with_reducible first | exact HB.out | apply below_alloc | apply pw_below_drewN | apply below_drew1) | exact HB.out)⟩⟩
                          · rw [if_neg c26] at H
                            exact absurd H (by simp)
                        · rw [if_neg c25] at H
                          exact absurd H (by simp)
                      · rw [if_neg c24] at H
                        exact absurd H (by simp)
              · rw [if_neg c14] at H
                have c14b0 : decide ((wrap64 (x5_2 + 1)) < (t166.size : Int)) = false := decide_eq_false c14
                clear c14
                obtain rfl := Option.some.inj H
                go_wp2
                go_ret
                exact ⟨by first | rfl | (simp [errW_none, errW_some] <;> rfl) | (simp [*, errW_none, errW_some] <;> rfl), by repeat (first | (with_reducible first | exact HB.out | apply below_alloc | apply pw_below_drewN | apply below_drew1) | exact HB.out)⟩
  · replace c3 := Bool.eq_false_iff.mpr c3
    subst c3
    have H1 : (some false) = some r := by rw [if_neg (show ¬ (false = true) by decide)] at H; exact H
    clear H
    have H := H1
    clear H1
    obtain rfl := Option.some.inj H
    go_enter Tryd.func4, Tryd.ntmps4
    go_wp2_with (first | ((with_reducible refine gate_callee (f := 8) rfl ?_); refine goesL_ (some 7) rfl rfl Tryd.func8 (by kernel_rfl) rfl #[] rfl (by (try simp only [List.map_toArray, List.map_cons, List.map_nil]); first | done | rfl | (simp only [List.length_drop, List.length_take]; rfl)) ?_; (with_reducible refine (calepinlaw02_first.calls k  false _ (env_at HE.out (by repeat (first | (with_reducible first | exact HB.out | apply below_alloc | apply pw_below_drewN | apply below_drew1) | exact HB.out))) A2.out).mono ?_); rintro e w34 ⟨rfl, hb⟩; refine ⟨_, rfl, ?_⟩; have n0_ := Aside0.mk (below_step (by repeat (first | (with_reducible first | exact HB.out | apply below_alloc | apply pw_below_drewN | apply below_drew1) | exact HB.out)) hb); clear HB; have HB := n0_; clear n0_; (try clear hb); (try clear hb2); (try clear hk); (try clear hi)))
    go_ret
    exact ⟨by first | rfl | (simp [errW_none, errW_some] <;> rfl) | (simp [*, errW_none, errW_some] <;> rfl), by repeat (first | (with_reducible first | exact HB.out | apply below_alloc | apply pw_below_drewN | apply below_drew1) | exact HB.out)⟩

/-! ### calepinref02_Fold: function 14 -/
def calepinref02_Fold.l0 : Nat → ByteArray → ByteArray → Int → Bool → Option (ByteArray)
  | 0, _, _, _, _ => none
  | k + 1, x0, x3, x4, x5 => if (x0.size : Int) > 0 then ((calepinref02_Size.f k x0).bind fun t170 => (if t170 > x4 then (if x5 = true then (if 0 ≤ t170 then (if t170 ≤ (x0.size : Int) then ((some (x0.extract 0 (t170 : Int).toNat : ByteArray)).bind fun y171 => (if x3.size + y171.size ≤ 9223372036854775807 then (calepinref02_Fold.l0 k (x0.extract (t170 : Int).toNat x0.size) (x3 ++ y171) (wrap64 (x4 - t170)) false) else (none))) else (none)) else (none)) else (if x3.size + 3 ≤ 9223372036854775807 then (if 0 ≤ t170 then (if t170 ≤ (x0.size : Int) then ((some (x0.extract 0 (t170 : Int).toNat : ByteArray)).bind fun y173 => (if (x3 ++ (⟨#[13, 10, 32]⟩ : ByteArray)).size + y173.size ≤ 9223372036854775807 then (calepinref02_Fold.l0 k (x0.extract (t170 : Int).toNat x0.size) ((x3 ++ (⟨#[13, 10, 32]⟩ : ByteArray)) ++ y173) (wrap64 (74 - t170)) false) else (none))) else (none)) else (none)) else (none))) else (if 0 ≤ t170 then (if t170 ≤ (x0.size : Int) then ((some (x0.extract 0 (t170 : Int).toNat : ByteArray)).bind fun y175 => (if x3.size + y175.size ≤ 9223372036854775807 then (calepinref02_Fold.l0 k (x0.extract (t170 : Int).toNat x0.size) (x3 ++ y175) (wrap64 (x4 - t170)) false) else (none))) else (none)) else (none)))) else (if x3.size + 2 ≤ 9223372036854775807 then (some (x3 ++ (⟨#[13, 10]⟩ : ByteArray))) else (none))
def calepinref02_Fold.f (k : Nat) (a0 : ByteArray) : Option (ByteArray) := calepinref02_Fold.l0 k a0 (⟨#[]⟩ : ByteArray) 75 true
theorem calepinref02_Fold.mono_l : ∀ k, (∀ y0 y1 y2 y3, LeO (calepinref02_Fold.l0 k y0 y1 y2 y3) (calepinref02_Fold.l0 (k + 1) y0 y1 y2 y3))
  | 0 => fun _ _ _ _ r h => by simp [calepinref02_Fold.l0] at h
  | k + 1 => by
    have ih0 := calepinref02_Fold.mono_l k
    · intro y0 y1 y2 y3
      unfold calepinref02_Fold.l0
      repeat' first
      | (with_reducible exact ih0 _ _ _ _)
      | (with_reducible exact calepinref02_Size.mono _ _)
      | (with_reducible exact LeO.refl _)
      | (with_reducible exact LeO.none _)
      | (with_reducible refine LeO.ite ?_ ?_)
      | (with_reducible refine LeO.bind ?_ (fun _ => ?_))
      | exact ih0 _ _ _ _
      | exact calepinref02_Size.mono _ _
      | exact LeO.none _
      | refine LeO.ite ?_ ?_
      | refine LeO.bind ?_ (fun _ => ?_)
theorem calepinref02_Fold.mono : ∀ a0 k, LeO (calepinref02_Fold.f k a0) (calepinref02_Fold.f (k + 1) a0) := by
  intro a0 k
  have ih0 := calepinref02_Fold.mono_l k
  unfold calepinref02_Fold.f
  repeat' first
      | (with_reducible exact ih0 _ _ _ _)
      | (with_reducible exact calepinref02_Size.mono _ _)
      | (with_reducible exact LeO.refl _)
      | (with_reducible exact LeO.none _)
      | (with_reducible refine LeO.ite ?_ ?_)
      | (with_reducible refine LeO.bind ?_ (fun _ => ?_))
      | exact ih0 _ _ _ _
      | exact calepinref02_Size.mono _ _
      | exact LeO.none _
      | refine LeO.ite ?_ ?_
      | refine LeO.bind ?_ (fun _ => ?_)
set_option maxHeartbeats 8000000 in
set_option maxRecDepth 100000 in
theorem calepinref02_Fold.calls (k : Nat) (a0 : ByteArray) (r : ByteArray) (w : World) (h : calepinref02_Fold.f k a0 = some r) :
    Calls Tryd.prog 14 #[.string a0] w fun e w' => e = .returned (.string r) ∧ Drawn0 w w' := by
  have H : (calepinref02_Fold.l0 k a0 (⟨#[]⟩ : ByteArray) 75 true) = some r := h
  clear h
  have H' := Aside0.mk H
  clear H
  go_enter Tryd.func14, Tryd.ntmps14
  go_wp2
  go_loopg [0, 3, 4, 5] k (fun kq v0 v3 v4 v5 w' => ∃ (x0_1 : ByteArray) (x3_1 : ByteArray) (x4_1 : Int) (x5_1 : Bool), v0 = .string x0_1 ∧ v3 = .string x3_1 ∧ v4 = .int .i64 x4_1 ∧ v5 = .bool x5_1 ∧ Aside0 (calepinref02_Fold.l0 kq x0_1 x3_1 x4_1 x5_1 = some r) ∧ Aside0 (kq ≤ k) ∧ Drawn0 w w')
  case atStart => exact ⟨(a0), ((⟨#[]⟩ : ByteArray)), (75), (true), (by first | rfl | (simp; done) | (simp [*]; done)), (by first | rfl | (simp; done) | (simp [*]; done)), (by first | rfl | (simp; done) | (simp [*]; done)), (by first | rfl | (simp; done) | (simp [*]; done)), H', ⟨Nat.le_refl _⟩, by repeat (first | exact Drawn0.refl _ | apply Drawn0.step)⟩
  case round =>
    clear H'
    try clear c1
    obtain ⟨x0_1, x3_1, x4_1, x5_1, rfl, rfl, rfl, rfl, HA, HK1, ⟨m1, rfl⟩⟩ := hrel
    cases gk with
    | zero => exact absurd HA.out (by simp [calepinref02_Fold.l0])
    | succ k1 =>
      have H := HA.out
      clear HA
      simp only [calepinref02_Fold.l0] at H
      by_cases c2 : (x0_1.size : Int) > 0
      · rw [if_pos c2] at H
        have c2b0 : decide (0 < (x0_1.size : Int)) = true := decide_eq_true c2
        have c2b1 : decide (0 < x0_1.size) = true := decide_eq_true (by omega)
        clear c2
        replace H := Option.bind_eq_some_iff.mp H
        obtain ⟨t170, A30, H⟩ := H
        replace H : (if t170 > x4_1 then (if x5_1 = true then (if 0 ≤ t170 then (if t170 ≤ (x0_1.size : Int) then ((some (x0_1.extract 0 (t170 : Int).toNat : ByteArray)).bind fun y171 => (if x3_1.size + y171.size ≤ 9223372036854775807 then (calepinref02_Fold.l0 k1 (x0_1.extract (t170 : Int).toNat x0_1.size) (x3_1 ++ y171) (wrap64 (x4_1 - t170)) false) else (none))) else (none)) else (none)) else (if x3_1.size + 3 ≤ 9223372036854775807 then (if 0 ≤ t170 then (if t170 ≤ (x0_1.size : Int) then ((some (x0_1.extract 0 (t170 : Int).toNat : ByteArray)).bind fun y173 => (if (x3_1 ++ (⟨#[13, 10, 32]⟩ : ByteArray)).size + y173.size ≤ 9223372036854775807 then (calepinref02_Fold.l0 k1 (x0_1.extract (t170 : Int).toNat x0_1.size) ((x3_1 ++ (⟨#[13, 10, 32]⟩ : ByteArray)) ++ y173) (wrap64 (74 - t170)) false) else (none))) else (none)) else (none)) else (none))) else (if 0 ≤ t170 then (if t170 ≤ (x0_1.size : Int) then ((some (x0_1.extract 0 (t170 : Int).toNat : ByteArray)).bind fun y175 => (if x3_1.size + y175.size ≤ 9223372036854775807 then (calepinref02_Fold.l0 k1 (x0_1.extract (t170 : Int).toNat x0_1.size) (x3_1 ++ y175) (wrap64 (x4_1 - t170)) false) else (none))) else (none)) else (none))) = some r := H
        have A3 := Aside0.mk A30
        clear A30
        by_cases c4 : t170 > x4_1
        · rw [if_pos c4] at H
          have c4b0 : decide (x4_1 < t170) = true := decide_eq_true c4
          clear c4
          by_cases c5 : x5_1 = true
          · subst c5
            have H1 : (if 0 ≤ t170 then (if t170 ≤ (x0_1.size : Int) then ((some (x0_1.extract 0 (t170 : Int).toNat : ByteArray)).bind fun y171 => (if x3_1.size + y171.size ≤ 9223372036854775807 then (calepinref02_Fold.l0 k1 (x0_1.extract (t170 : Int).toNat x0_1.size) (x3_1 ++ y171) (wrap64 (x4_1 - t170)) false) else (none))) else (none)) else (none)) = some r := by rw [if_pos rfl] at H; exact H
            clear H
            have H := H1
            clear H1
            by_cases c6 : 0 ≤ t170
            · rw [if_pos c6] at H
              have c6b0 := eq_true c6
              have c6b1 : decide (0 ≤ t170) = true := decide_eq_true c6
              clear c6
              by_cases c7 : t170 ≤ (x0_1.size : Int)
              · rw [if_pos c7] at H
                have c7b0 := eq_true c7
                have c7b1 : decide (t170 ≤ (x0_1.size : Int)) = true := decide_eq_true c7
                clear c7
                obtain ⟨y171, hy171⟩ : ∃ y_ : ByteArray, y_ = (x0_1.extract 0 (t170 : Int).toNat) := ⟨_, rfl⟩
                replace H : (if x3_1.size + y171.size ≤ 9223372036854775807 then (calepinref02_Fold.l0 k1 (x0_1.extract (t170 : Int).toNat x0_1.size) (x3_1 ++ y171) (wrap64 (x4_1 - t170)) false) else (none)) = some r := by first | (rw [hy171]; with_reducible exact H) | (have H2_ := (Option.bind_some _ _).symm.trans H; rw [hy171]; with_reducible exact H2_) | (have H2_ := (Option.bind_some _ _).symm.trans H; with_reducible exact H2_) | with_reducible exact H | (rw [hy171]; exact H) | exact H
                have Ny171 := Aside0.mk hy171
                clear hy171
                have sy171 := Ny171.out.symm
                by_cases c8 : x3_1.size + y171.size ≤ 9223372036854775807
                · rw [if_pos c8] at H
                  have c8b0 := eq_true c8
                  have c8b1 : decide (x3_1.size + y171.size ≤ 9223372036854775807) = true := decide_eq_true c8
                  try have c8b2 : (9223372036854775807 < x3_1.size + y171.size) = False := eq_false (Nat.not_lt.2 c8)
                  have c9b0 := eq_true (of_decide_eq_true (by first | (with_reducible assumption) | assumption) : 0 ≤ t170)
                  have c10b0 := eq_true (of_decide_eq_true (by first | (with_reducible assumption) | assumption) : t170 ≤ (x0_1.size : Int))
                  obtain ⟨y172, hy172⟩ : ∃ y_ : ByteArray, y_ = (x0_1.extract (t170 : Int).toNat x0_1.size) := ⟨_, rfl⟩
                  replace H : (calepinref02_Fold.l0 k1 y172 (x3_1 ++ y171) (wrap64 (x4_1 - t170)) false) = some r := by first | (rw [hy172]; with_reducible exact H) | (have H2_ := (Option.bind_some _ _).symm.trans H; rw [hy172]; with_reducible exact H2_) | (have H2_ := (Option.bind_some _ _).symm.trans H; with_reducible exact H2_) | with_reducible exact H | (rw [hy172]; exact H) | exact H
                  have Ny172 := Aside0.mk hy172
                  clear hy172
                  have sy172 := Ny172.out.symm
                  have H' := Aside0.mk H
                  clear H
                  go_wp2_with (first | ((with_reducible refine gate_callee (f := 13) rfl ?_); refine goesL_ (some 11) rfl rfl Tryd.func13 (by kernel_rfl) rfl #[.string x0_1] rfl (by (try simp only [List.map_toArray, List.map_cons, List.map_nil]); first | done | rfl | (simp only [List.length_drop, List.length_take]; rfl)) ?_; (with_reducible refine (calepinref02_Size.calls k1 x0_1 t170 _ A3.out).mono ?_); rintro e w' ⟨rfl, ⟨nd, rfl⟩⟩; refine ⟨_, rfl, ?_⟩))
                  go_roundg k1
                  case measure => have := HK1.out; omega
                  case rel => exact ⟨(y172), (x3_1 ++ y171), (wrap64 (x4_1 - t170)), (false), (by first | rfl | (simp; done) | (simp [*]; done)), (by first | rfl | (simp; done) | (simp [*]; done)), (by first | rfl | (simp; done) | (simp [*]; done)), (by first | rfl | (simp; done) | (simp [*]; done)), H', ⟨by have := HK1.out; omega⟩, by repeat (first | exact Drawn0.refl _ | apply Drawn0.step)⟩
                · rw [if_neg c8] at H
                  exact absurd H (by simp)
              · rw [if_neg c7] at H
                exact absurd H (by simp)
            · rw [if_neg c6] at H
              exact absurd H (by simp)
          · replace c5 := Bool.eq_false_iff.mpr c5
            subst c5
            have H1 : (if x3_1.size + 3 ≤ 9223372036854775807 then (if 0 ≤ t170 then (if t170 ≤ (x0_1.size : Int) then ((some (x0_1.extract 0 (t170 : Int).toNat : ByteArray)).bind fun y173 => (if (x3_1 ++ (⟨#[13, 10, 32]⟩ : ByteArray)).size + y173.size ≤ 9223372036854775807 then (calepinref02_Fold.l0 k1 (x0_1.extract (t170 : Int).toNat x0_1.size) ((x3_1 ++ (⟨#[13, 10, 32]⟩ : ByteArray)) ++ y173) (wrap64 (74 - t170)) false) else (none))) else (none)) else (none)) else (none)) = some r := by rw [if_neg (show ¬ (false = true) by decide)] at H; exact H
            clear H
            have H := H1
            clear H1
            by_cases c11 : x3_1.size + 3 ≤ 9223372036854775807
            · rw [if_pos c11] at H
              have c11b0 := eq_true c11
              have c11b1 : decide (x3_1.size + 3 ≤ 9223372036854775807) = true := decide_eq_true c11
              try have c11b2 : (9223372036854775807 < x3_1.size + 3) = False := eq_false (Nat.not_lt.2 c11)
              by_cases c12 : 0 ≤ t170
              · rw [if_pos c12] at H
                have c12b0 := eq_true c12
                have c12b1 : decide (0 ≤ t170) = true := decide_eq_true c12
                clear c12
                by_cases c13 : t170 ≤ (x0_1.size : Int)
                · rw [if_pos c13] at H
                  have c13b0 := eq_true c13
                  have c13b1 : decide (t170 ≤ (x0_1.size : Int)) = true := decide_eq_true c13
                  clear c13
                  obtain ⟨y173, hy173⟩ : ∃ y_ : ByteArray, y_ = (x0_1.extract 0 (t170 : Int).toNat) := ⟨_, rfl⟩
                  replace H : (if (x3_1 ++ (⟨#[13, 10, 32]⟩ : ByteArray)).size + y173.size ≤ 9223372036854775807 then (calepinref02_Fold.l0 k1 (x0_1.extract (t170 : Int).toNat x0_1.size) ((x3_1 ++ (⟨#[13, 10, 32]⟩ : ByteArray)) ++ y173) (wrap64 (74 - t170)) false) else (none)) = some r := by first | (rw [hy173]; with_reducible exact H) | (have H2_ := (Option.bind_some _ _).symm.trans H; rw [hy173]; with_reducible exact H2_) | (have H2_ := (Option.bind_some _ _).symm.trans H; with_reducible exact H2_) | with_reducible exact H | (rw [hy173]; exact H) | exact H
                  have Ny173 := Aside0.mk hy173
                  clear hy173
                  have sy173 := Ny173.out.symm
                  by_cases c14 : (x3_1 ++ (⟨#[13, 10, 32]⟩ : ByteArray)).size + y173.size ≤ 9223372036854775807
                  · rw [if_pos c14] at H
                    have c14b0 := eq_true c14
                    have c14b1 : decide ((x3_1 ++ (⟨#[13, 10, 32]⟩ : ByteArray)).size + y173.size ≤ 9223372036854775807) = true := decide_eq_true c14
                    try have c14b2 : (9223372036854775807 < (x3_1 ++ (⟨#[13, 10, 32]⟩ : ByteArray)).size + y173.size) = False := eq_false (Nat.not_lt.2 c14)
                    have c15b0 := eq_true (of_decide_eq_true (by first | (with_reducible assumption) | assumption) : 0 ≤ t170)
                    have c16b0 := eq_true (of_decide_eq_true (by first | (with_reducible assumption) | assumption) : t170 ≤ (x0_1.size : Int))
                    obtain ⟨y174, hy174⟩ : ∃ y_ : ByteArray, y_ = (x0_1.extract (t170 : Int).toNat x0_1.size) := ⟨_, rfl⟩
                    replace H : (calepinref02_Fold.l0 k1 y174 ((x3_1 ++ (⟨#[13, 10, 32]⟩ : ByteArray)) ++ y173) (wrap64 (74 - t170)) false) = some r := by first | (rw [hy174]; with_reducible exact H) | (have H2_ := (Option.bind_some _ _).symm.trans H; rw [hy174]; with_reducible exact H2_) | (have H2_ := (Option.bind_some _ _).symm.trans H; with_reducible exact H2_) | with_reducible exact H | (rw [hy174]; exact H) | exact H
                    have Ny174 := Aside0.mk hy174
                    clear hy174
                    have sy174 := Ny174.out.symm
                    have H' := Aside0.mk H
                    clear H
                    go_wp2_with (first | ((with_reducible refine gate_callee (f := 13) rfl ?_); refine goesL_ (some 11) rfl rfl Tryd.func13 (by kernel_rfl) rfl #[.string x0_1] rfl (by (try simp only [List.map_toArray, List.map_cons, List.map_nil]); first | done | rfl | (simp only [List.length_drop, List.length_take]; rfl)) ?_; (with_reducible refine (calepinref02_Size.calls k1 x0_1 t170 _ A3.out).mono ?_); rintro e w' ⟨rfl, ⟨nd, rfl⟩⟩; refine ⟨_, rfl, ?_⟩))
                    go_roundg k1
                    case measure => have := HK1.out; omega
                    case rel => exact ⟨(y174), ((x3_1 ++ (⟨#[13, 10, 32]⟩ : ByteArray)) ++ y173), (wrap64 (74 - t170)), (false), (by first | rfl | (simp; done) | (simp [*]; done)), (by first | rfl | (simp; done) | (simp [*]; done)), (by first | rfl | (simp; done) | (simp [*]; done)), (by first | rfl | (simp; done) | (simp [*]; done)), H', ⟨by have := HK1.out; omega⟩, by repeat (first | exact Drawn0.refl _ | apply Drawn0.step)⟩
                  · rw [if_neg c14] at H
                    exact absurd H (by simp)
                · rw [if_neg c13] at H
                  exact absurd H (by simp)
              · rw [if_neg c12] at H
                exact absurd H (by simp)
            · rw [if_neg c11] at H
              exact absurd H (by simp)
        · rw [if_neg c4] at H
          have c4b0 : decide (x4_1 < t170) = false := decide_eq_false c4
          clear c4
          by_cases c17 : 0 ≤ t170
          · rw [if_pos c17] at H
            have c17b0 := eq_true c17
            have c17b1 : decide (0 ≤ t170) = true := decide_eq_true c17
            clear c17
            by_cases c18 : t170 ≤ (x0_1.size : Int)
            · rw [if_pos c18] at H
              have c18b0 := eq_true c18
              have c18b1 : decide (t170 ≤ (x0_1.size : Int)) = true := decide_eq_true c18
              clear c18
              obtain ⟨y175, hy175⟩ : ∃ y_ : ByteArray, y_ = (x0_1.extract 0 (t170 : Int).toNat) := ⟨_, rfl⟩
              replace H : (if x3_1.size + y175.size ≤ 9223372036854775807 then (calepinref02_Fold.l0 k1 (x0_1.extract (t170 : Int).toNat x0_1.size) (x3_1 ++ y175) (wrap64 (x4_1 - t170)) false) else (none)) = some r := by first | (rw [hy175]; with_reducible exact H) | (have H2_ := (Option.bind_some _ _).symm.trans H; rw [hy175]; with_reducible exact H2_) | (have H2_ := (Option.bind_some _ _).symm.trans H; with_reducible exact H2_) | with_reducible exact H | (rw [hy175]; exact H) | exact H
              have Ny175 := Aside0.mk hy175
              clear hy175
              have sy175 := Ny175.out.symm
              by_cases c19 : x3_1.size + y175.size ≤ 9223372036854775807
              · rw [if_pos c19] at H
                have c19b0 := eq_true c19
                have c19b1 : decide (x3_1.size + y175.size ≤ 9223372036854775807) = true := decide_eq_true c19
                try have c19b2 : (9223372036854775807 < x3_1.size + y175.size) = False := eq_false (Nat.not_lt.2 c19)
                have c20b0 := eq_true (of_decide_eq_true (by first | (with_reducible assumption) | assumption) : 0 ≤ t170)
                have c21b0 := eq_true (of_decide_eq_true (by first | (with_reducible assumption) | assumption) : t170 ≤ (x0_1.size : Int))
                obtain ⟨y176, hy176⟩ : ∃ y_ : ByteArray, y_ = (x0_1.extract (t170 : Int).toNat x0_1.size) := ⟨_, rfl⟩
                replace H : (calepinref02_Fold.l0 k1 y176 (x3_1 ++ y175) (wrap64 (x4_1 - t170)) false) = some r := by first | (rw [hy176]; with_reducible exact H) | (have H2_ := (Option.bind_some _ _).symm.trans H; rw [hy176]; with_reducible exact H2_) | (have H2_ := (Option.bind_some _ _).symm.trans H; with_reducible exact H2_) | with_reducible exact H | (rw [hy176]; exact H) | exact H
                have Ny176 := Aside0.mk hy176
                clear hy176
                have sy176 := Ny176.out.symm
                have H' := Aside0.mk H
                clear H
                go_wp2_with (first | ((with_reducible refine gate_callee (f := 13) rfl ?_); refine goesL_ (some 11) rfl rfl Tryd.func13 (by kernel_rfl) rfl #[.string x0_1] rfl (by (try simp only [List.map_toArray, List.map_cons, List.map_nil]); first | done | rfl | (simp only [List.length_drop, List.length_take]; rfl)) ?_; (with_reducible refine (calepinref02_Size.calls k1 x0_1 t170 _ A3.out).mono ?_); rintro e w' ⟨rfl, ⟨nd, rfl⟩⟩; refine ⟨_, rfl, ?_⟩))
                go_roundg k1
                case measure => have := HK1.out; omega
                case rel => exact ⟨(y176), (x3_1 ++ y175), (wrap64 (x4_1 - t170)), (false), (by first | rfl | (simp; done) | (simp [*]; done)), (by first | rfl | (simp; done) | (simp [*]; done)), (by first | rfl | (simp; done) | (simp [*]; done)), (by first | rfl | (simp; done) | (simp [*]; done)), H', ⟨by have := HK1.out; omega⟩, by repeat (first | exact Drawn0.refl _ | apply Drawn0.step)⟩
              · rw [if_neg c19] at H
                exact absurd H (by simp)
            · rw [if_neg c18] at H
              exact absurd H (by simp)
          · rw [if_neg c17] at H
            exact absurd H (by simp)
      · rw [if_neg c2] at H
        have c2b0 : decide (0 < (x0_1.size : Int)) = false := decide_eq_false c2
        have c2b1 : decide (0 < x0_1.size) = false := decide_eq_false (by omega)
        clear c2
        by_cases c22 : x3_1.size + 2 ≤ 9223372036854775807
        · rw [if_pos c22] at H
          have c22b0 := eq_true c22
          have c22b1 : decide (x3_1.size + 2 ≤ 9223372036854775807) = true := decide_eq_true c22
          try have c22b2 : (9223372036854775807 < x3_1.size + 2) = False := eq_false (Nat.not_lt.2 c22)
          obtain rfl := Option.some.inj H
          go_wp2
          go_ret
          exact ⟨by first | rfl | (simp; done) | (simp [*]; done), by repeat (first | exact Drawn0.refl _ | apply Drawn0.step)⟩
        · rw [if_neg c22] at H
          exact absurd H (by simp)

-- function 23 (strings_ContainsAny): its contract is proved in YtpjidedgifjgeaaDoorExtFold

/-! ### fold_Good: function 15 -/
def fold_Good.f (a0 : ByteArray) : Option (Bool) := if a0.toList = ([] : List UInt8) then (some false) else (if 0 < (a0.size : Int) then (if (bt a0 0) = 32 then (some false) else (if (bt a0 0) = 9 then (some false) else ((strings_ContainsAny.f a0 (⟨#[13, 10]⟩ : ByteArray)).bind fun t177 => (some (!t177))))) else (none))
set_option maxHeartbeats 8000000 in
set_option maxRecDepth 100000 in
theorem fold_Good.calls (a0 : ByteArray) (r : Bool) (w : World) (hE : Env w) (h : fold_Good.f a0 = some r) :
    Calls Tryd.prog 15 #[.string a0] w fun e w' => e = .returned (.bool r) ∧ Below w.heap.size w w' := by
  have HE := Aside0.mk hE
  clear hE
  have HB := Aside0.mk (Below.refl w.heap.size w)
  have H : (if a0.toList = ([] : List UInt8) then (some false) else (if 0 < (a0.size : Int) then (if (bt a0 0) = 32 then (some false) else (if (bt a0 0) = 9 then (some false) else ((strings_ContainsAny.f a0 (⟨#[13, 10]⟩ : ByteArray)).bind fun t177 => (some (!t177))))) else (none))) = some r := h
  clear h
  by_cases c2 : a0.toList = ([] : List UInt8)
  · rw [if_pos c2] at H
    have c2b0 : (a0.toList == ([] : List UInt8)) = true := beq_iff_eq.mpr c2
    have c2b1 : (a0.toList != ([] : List UInt8)) = false := bne_eq_false_iff_eq.mpr c2
    clear c2
    obtain rfl := Option.some.inj H
    go_enter Tryd.func15, Tryd.ntmps15
    go_wp2
    go_ret
    exact ⟨by first | rfl | (simp [errW_none, errW_some] <;> rfl) | (simp [*, errW_none, errW_some] <;> rfl), by repeat (first | (with_reducible first | exact HB.out | apply below_alloc | apply pw_below_drewN | apply below_drew1) | exact HB.out)⟩
  · rw [if_neg c2] at H
    have c2b0 : (a0.toList == ([] : List UInt8)) = false := beq_eq_false_iff_ne.mpr c2
    have c2b1 : (a0.toList != ([] : List UInt8)) = true := bne_iff_ne.mpr c2
    by_cases c3 : 0 < (a0.size : Int)
    · rw [if_pos c3] at H
      have c3b0 : decide (0 < (a0.size : Int)) = true := decide_eq_true c3
      have c3b1 : decide (0 < a0.size) = true := decide_eq_true (by omega)
      clear c3
      by_cases c5 : (bt a0 0) = 32
      · rw [if_pos c5] at H
        have c5b0 : ((bt a0 0) == 32) = true := beq_iff_eq.mpr c5
        have c5b1 : ((bt a0 0) != 32) = false := bne_eq_false_iff_eq.mpr c5
        clear c5
        obtain rfl := Option.some.inj H
        have p4 : 0 ≤ (0 : Int) := (by omega)
        have q4 : 0 < a0.size := (by have : (0 : Int) < (a0.size : Int) := of_decide_eq_true (by first | (with_reducible assumption) | assumption); omega)
        have hx4 : ∀ h : 0 < a0.size, ((a0[0]'h).toNat : Int) = bt a0 0 := bt_at a0 0
        clear p4
        have qi4 : (0 < (a0.size : Int)) = True := eq_true (of_decide_eq_true (by first | (with_reducible assumption) | assumption))
        replace q4 := eq_true q4
        go_enter Tryd.func15, Tryd.ntmps15
        go_wp2
        go_ret
        exact ⟨by first | rfl | (simp [errW_none, errW_some] <;> rfl) | (simp [*, errW_none, errW_some] <;> rfl), by repeat (first | (with_reducible first | exact HB.out | apply below_alloc | apply pw_below_drewN | apply below_drew1) | exact HB.out)⟩
      · rw [if_neg c5] at H
        have c5b0 : ((bt a0 0) == 32) = false := beq_eq_false_iff_ne.mpr c5
        have c5b1 : ((bt a0 0) != 32) = true := bne_iff_ne.mpr c5
        by_cases c7 : (bt a0 0) = 9
        · rw [if_pos c7] at H
          have c7b0 : ((bt a0 0) == 9) = true := beq_iff_eq.mpr c7
          have c7b1 : ((bt a0 0) != 9) = false := bne_eq_false_iff_eq.mpr c7
          clear c7
          obtain rfl := Option.some.inj H
          have p4 : 0 ≤ (0 : Int) := (by omega)
          have q4 : 0 < a0.size := (by have : (0 : Int) < (a0.size : Int) := of_decide_eq_true (by first | (with_reducible assumption) | assumption); omega)
          have hx4 : ∀ h : 0 < a0.size, ((a0[0]'h).toNat : Int) = bt a0 0 := bt_at a0 0
          clear p4
          have qi4 : (0 < (a0.size : Int)) = True := eq_true (of_decide_eq_true (by first | (with_reducible assumption) | assumption))
          replace q4 := eq_true q4
          have p6 : 0 ≤ (0 : Int) := (by omega)
          have q6 : 0 < a0.size := (by have : (0 : Int) < (a0.size : Int) := of_decide_eq_true (by first | (with_reducible assumption) | assumption); omega)
          have hx6 : ∀ h : 0 < a0.size, ((a0[0]'h).toNat : Int) = bt a0 0 := bt_at a0 0
          clear p6
          have qi6 : (0 < (a0.size : Int)) = True := eq_true (of_decide_eq_true (by first | (with_reducible assumption) | assumption))
          replace q6 := eq_true q6
          go_enter Tryd.func15, Tryd.ntmps15
          go_wp2
          go_ret
          exact ⟨by first | rfl | (simp [errW_none, errW_some] <;> rfl) | (simp [*, errW_none, errW_some] <;> rfl), by repeat (first | (with_reducible first | exact HB.out | apply below_alloc | apply pw_below_drewN | apply below_drew1) | exact HB.out)⟩
        · rw [if_neg c7] at H
          have c7b0 : ((bt a0 0) == 9) = false := beq_eq_false_iff_ne.mpr c7
          have c7b1 : ((bt a0 0) != 9) = true := bne_iff_ne.mpr c7
          replace H := Option.bind_eq_some_iff.mp H
          obtain ⟨t177, A80, H⟩ := H
          replace H : (some (!t177)) = some r := H
          have A8 := Aside0.mk A80
          clear A80
          obtain rfl := Option.some.inj H
          have p4 : 0 ≤ (0 : Int) := (by omega)
          have q4 : 0 < a0.size := (by have : (0 : Int) < (a0.size : Int) := of_decide_eq_true (by first | (with_reducible assumption) | assumption); omega)
          have hx4 : ∀ h : 0 < a0.size, ((a0[0]'h).toNat : Int) = bt a0 0 := bt_at a0 0
          clear p4
          have qi4 : (0 < (a0.size : Int)) = True := eq_true (of_decide_eq_true (by first | (with_reducible assumption) | assumption))
          replace q4 := eq_true q4
          have p6 : 0 ≤ (0 : Int) := (by omega)
          have q6 : 0 < a0.size := (by have : (0 : Int) < (a0.size : Int) := of_decide_eq_true (by first | (with_reducible assumption) | assumption); omega)
          have hx6 : ∀ h : 0 < a0.size, ((a0[0]'h).toNat : Int) = bt a0 0 := bt_at a0 0
          clear p6
          have qi6 : (0 < (a0.size : Int)) = True := eq_true (of_decide_eq_true (by first | (with_reducible assumption) | assumption))
          replace q6 := eq_true q6
          go_enter Tryd.func15, Tryd.ntmps15
          go_wp2_with (first | (go_at_call 23; (with_reducible refine (strings_ContainsAny.calls a0 (⟨#[13, 10]⟩ : ByteArray) t177 _ (env_at HE.out (by repeat (first | (with_reducible first | exact HB.out | apply below_alloc | apply pw_below_drewN | apply below_drew1) | exact HB.out))) A8.out).mono ?_); rintro e w9 ⟨rfl, hb⟩; have n0_ := Aside0.mk (below_step (by repeat (first | (with_reducible first | exact HB.out | apply below_alloc | apply pw_below_drewN | apply below_drew1) | exact HB.out)) hb); clear HB; have HB := n0_; clear n0_; (try clear hb); (try clear hb2); (try clear hk); (try clear hi)))
          go_ret
          exact ⟨by first | rfl | (simp [errW_none, errW_some] <;> rfl) | (simp [*, errW_none, errW_some] <;> rfl), by repeat (first | (with_reducible first | exact HB.out | apply below_alloc | apply pw_below_drewN | apply below_drew1) | exact HB.out)⟩
    · rw [if_neg c3] at H
      exact absurd H (by simp)

end Go.Proofs.YtpjidedgifjgeaaDoor.Pf
