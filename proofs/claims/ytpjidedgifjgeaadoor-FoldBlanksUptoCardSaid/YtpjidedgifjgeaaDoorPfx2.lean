-- Written by a program of this session (wip/extprint.py) over the kit's print. Not trusted: Lean checks it.
import Derived.Test.YtpjidedgifjgeaaDoorPfx0
namespace Go.Proofs.YtpjidedgifjgeaaDoor.Pf
open Go.RowKit Go.Proofs.YtpjidedgifjgeaaDoorW.PrintWords Go.Proofs.YtpjidedgifjgeaaDoorW.PrintLast Go.Proofs.YtpjidedgifjgeaaDoorW.PrintMore
attribute [local go_sem] max2_int min2_int max_two min_two max_three min_three max_four min_four   -- for this text's walks alone
set_option linter.unusedVariables false
set_option linter.unusedSimpArgs false

/-! ### calepinref02_Unfold: function 10 -/
mutual
def calepinref02_Unfold.l0 : Nat → ByteArray → List ByteArray → Int → Int → Option (List ByteArray × Bool)
  | 0, _, _, _, _ => none
  | k + 1, x0, x4, x5, x6 => if x6 < (x0.size : Int) then (if 0 ≤ x6 then (if (bt x0 x6) = 10 then (if 0 ≤ x5 then (if x5 ≤ x6 then (if x6 ≤ (x0.size : Int) then ((some (x0.extract (x5 : Int).toNat (x6 : Int).toNat : ByteArray)).bind fun y130 => (if (y130.size : Int) > 0 then (if 0 ≤ (wrap64 ((y130.size : Int) - 1)) then (if (wrap64 ((y130.size : Int) - 1)) < (y130.size : Int) then (if (bt y130 (wrap64 ((y130.size : Int) - 1))) = 13 then (if (wrap64 ((y130.size : Int) - 1)) ≤ (y130.size : Int) then (if x4.length < 8796093022208 then (calepinref02_Unfold.l0 k x0 (x4 ++ [(y130.extract 0 ((wrap64 ((y130.size : Int) - 1)) : Int).toNat)]) (wrap64 (x6 + 1)) (wrap64 (x6 + 1))) else (none)) else (none)) else (if x4.length < 8796093022208 then (calepinref02_Unfold.l0 k x0 (x4 ++ [y130]) (wrap64 (x6 + 1)) (wrap64 (x6 + 1))) else (none))) else (none)) else (none)) else (if x4.length < 8796093022208 then (calepinref02_Unfold.l0 k x0 (x4 ++ [y130]) (wrap64 (x6 + 1)) (wrap64 (x6 + 1))) else (none)))) else (none)) else (none)) else (none)) else (calepinref02_Unfold.l0 k x0 x4 x5 (wrap64 (x6 + 1)))) else (none)) else (if x5 < (x0.size : Int) then (some (([] : List ByteArray), false)) else (calepinref02_Unfold.l1 k ([] : List ByteArray) x4 (x4.length : Int) 0))
def calepinref02_Unfold.l1 : Nat → List ByteArray → List ByteArray → Int → Int → Option (List ByteArray × Bool)
  | 0, _, _, _, _ => none
  | k + 1, x8, x52, x53, x54 => if x54 < x53 then (if 0 ≤ x54 then (if x54 < (x52.length : Int) then (if ((rdOf ByteArray.empty x52 x54).size : Int) = 0 then (some (([] : List ByteArray), false)) else (calepinref02_Unfold.l2 k x8 x54 (rdOf ByteArray.empty x52 x54) 0 x52 x53 x54)) else (none)) else (none)) else (some (x8, true))
def calepinref02_Unfold.l2 : Nat → List ByteArray → Int → ByteArray → Int → List ByteArray → Int → Int → Option (List ByteArray × Bool)
  | 0, _, _, _, _, _, _, _ => none
  | k + 1, x8, x9, x10, x11, x52, x53, x54 => if x11 < (x10.size : Int) then (if 0 ≤ x11 then (if (bt x10 x11) = 13 then (some (([] : List ByteArray), false)) else (calepinref02_Unfold.l2 k x8 x9 x10 (wrap64 (x11 + 1)) x52 x53 x54)) else (none)) else (if 0 < (x10.size : Int) then (if (bt x10 0) = 32 then (calepinref02_Unfold.j3 k x8 x9 x10 x52 x53 x54 true) else (calepinref02_Unfold.j3 k x8 x9 x10 x52 x53 x54 ((bt x10 0) == 9))) else (none))
def calepinref02_Unfold.j3 : Nat → List ByteArray → Int → ByteArray → List ByteArray → Int → Int → Bool → Option (List ByteArray × Bool)
  | 0, _, _, _, _, _, _, _ => none
  | k + 1, x8, x9, x10, x52, x53, x54, x79 => if x79 = true then (if x9 = 0 then (some (([] : List ByteArray), false)) else (if 0 ≤ (wrap64 ((x8.length : Int) - 1)) then (if (wrap64 ((x8.length : Int) - 1)) < (x8.length : Int) then (if 1 ≤ (x10.size : Int) then ((some (x10.extract 1 x10.size : ByteArray)).bind fun y143 => (if (rdOf ByteArray.empty x8 (wrap64 ((x8.length : Int) - 1))).size + y143.size ≤ 9223372036854775807 then (calepinref02_Unfold.l1 k (x8.set ((wrap64 ((x8.length : Int) - 1)) : Int).toNat ((rdOf ByteArray.empty x8 (wrap64 ((x8.length : Int) - 1))) ++ y143)) x52 x53 (wrap64 (x54 + 1))) else (none))) else (none)) else (none)) else (none))) else (if x8.length < 8796093022208 then (calepinref02_Unfold.l1 k (x8 ++ [x10]) x52 x53 (wrap64 (x54 + 1))) else (none))
end
def calepinref02_Unfold.f (k : Nat) (a0 : ByteArray) : Option (List ByteArray × Bool) := calepinref02_Unfold.l0 k a0 ([] : List ByteArray) 0 0
theorem calepinref02_Unfold.mono_l : ∀ k, (∀ y0 y1 y2 y3, LeO (calepinref02_Unfold.l0 k y0 y1 y2 y3) (calepinref02_Unfold.l0 (k + 1) y0 y1 y2 y3)) ∧ (∀ y0 y1 y2 y3, LeO (calepinref02_Unfold.l1 k y0 y1 y2 y3) (calepinref02_Unfold.l1 (k + 1) y0 y1 y2 y3)) ∧ (∀ y0 y1 y2 y3 y4 y5 y6, LeO (calepinref02_Unfold.l2 k y0 y1 y2 y3 y4 y5 y6) (calepinref02_Unfold.l2 (k + 1) y0 y1 y2 y3 y4 y5 y6)) ∧ (∀ y0 y1 y2 y3 y4 y5 y6, LeO (calepinref02_Unfold.j3 k y0 y1 y2 y3 y4 y5 y6) (calepinref02_Unfold.j3 (k + 1) y0 y1 y2 y3 y4 y5 y6))
  | 0 => ⟨fun _ _ _ _ r h => by simp [calepinref02_Unfold.l0] at h, fun _ _ _ _ r h => by simp [calepinref02_Unfold.l1] at h, fun _ _ _ _ _ _ _ r h => by simp [calepinref02_Unfold.l2] at h, fun _ _ _ _ _ _ _ r h => by simp [calepinref02_Unfold.j3] at h⟩
  | k + 1 => by
    obtain ⟨ih0, ih1, ih2, ih3⟩ := calepinref02_Unfold.mono_l k
    refine ⟨?_, ?_, ?_, ?_⟩
    · intro y0 y1 y2 y3
      unfold calepinref02_Unfold.l0
      repeat' first
      | (with_reducible exact ih0 _ _ _ _)
      | (with_reducible exact ih1 _ _ _ _)
      | (with_reducible exact ih2 _ _ _ _ _ _ _)
      | (with_reducible exact ih3 _ _ _ _ _ _ _)
      | (with_reducible exact LeO.refl _)
      | (with_reducible exact LeO.none _)
      | (with_reducible refine LeO.ite ?_ ?_)
      | (with_reducible refine LeO.bind ?_ (fun _ => ?_))
      | exact ih0 _ _ _ _
      | exact ih1 _ _ _ _
      | exact ih2 _ _ _ _ _ _ _
      | exact ih3 _ _ _ _ _ _ _
      | exact LeO.none _
      | refine LeO.ite ?_ ?_
      | refine LeO.bind ?_ (fun _ => ?_)
    · intro y0 y1 y2 y3
      unfold calepinref02_Unfold.l1
      repeat' first
      | (with_reducible exact ih0 _ _ _ _)
      | (with_reducible exact ih1 _ _ _ _)
      | (with_reducible exact ih2 _ _ _ _ _ _ _)
      | (with_reducible exact ih3 _ _ _ _ _ _ _)
      | (with_reducible exact LeO.refl _)
      | (with_reducible exact LeO.none _)
      | (with_reducible refine LeO.ite ?_ ?_)
      | (with_reducible refine LeO.bind ?_ (fun _ => ?_))
      | exact ih0 _ _ _ _
      | exact ih1 _ _ _ _
      | exact ih2 _ _ _ _ _ _ _
      | exact ih3 _ _ _ _ _ _ _
      | exact LeO.none _
      | refine LeO.ite ?_ ?_
      | refine LeO.bind ?_ (fun _ => ?_)
    · intro y0 y1 y2 y3 y4 y5 y6
      unfold calepinref02_Unfold.l2
      repeat' first
      | (with_reducible exact ih0 _ _ _ _)
      | (with_reducible exact ih1 _ _ _ _)
      | (with_reducible exact ih2 _ _ _ _ _ _ _)
      | (with_reducible exact ih3 _ _ _ _ _ _ _)
      | (with_reducible exact LeO.refl _)
      | (with_reducible exact LeO.none _)
      | (with_reducible refine LeO.ite ?_ ?_)
      | (with_reducible refine LeO.bind ?_ (fun _ => ?_))
      | exact ih0 _ _ _ _
      | exact ih1 _ _ _ _
      | exact ih2 _ _ _ _ _ _ _
      | exact ih3 _ _ _ _ _ _ _
      | exact LeO.none _
      | refine LeO.ite ?_ ?_
      | refine LeO.bind ?_ (fun _ => ?_)
    · intro y0 y1 y2 y3 y4 y5 y6
      unfold calepinref02_Unfold.j3
      repeat' first
      | (with_reducible exact ih0 _ _ _ _)
      | (with_reducible exact ih1 _ _ _ _)
      | (with_reducible exact ih2 _ _ _ _ _ _ _)
      | (with_reducible exact ih3 _ _ _ _ _ _ _)
      | (with_reducible exact LeO.refl _)
      | (with_reducible exact LeO.none _)
      | (with_reducible refine LeO.ite ?_ ?_)
      | (with_reducible refine LeO.bind ?_ (fun _ => ?_))
      | exact ih0 _ _ _ _
      | exact ih1 _ _ _ _
      | exact ih2 _ _ _ _ _ _ _
      | exact ih3 _ _ _ _ _ _ _
      | exact LeO.none _
      | refine LeO.ite ?_ ?_
      | refine LeO.bind ?_ (fun _ => ?_)
theorem calepinref02_Unfold.mono : ∀ a0 k, LeO (calepinref02_Unfold.f k a0) (calepinref02_Unfold.f (k + 1) a0) := by
  intro a0 k
  obtain ⟨ih0, ih1, ih2, ih3⟩ := calepinref02_Unfold.mono_l k
  unfold calepinref02_Unfold.f
  repeat' first
      | (with_reducible exact ih0 _ _ _ _)
      | (with_reducible exact ih1 _ _ _ _)
      | (with_reducible exact ih2 _ _ _ _ _ _ _)
      | (with_reducible exact ih3 _ _ _ _ _ _ _)
      | (with_reducible exact LeO.refl _)
      | (with_reducible exact LeO.none _)
      | (with_reducible refine LeO.ite ?_ ?_)
      | (with_reducible refine LeO.bind ?_ (fun _ => ?_))
      | exact ih0 _ _ _ _
      | exact ih1 _ _ _ _
      | exact ih2 _ _ _ _ _ _ _
      | exact ih3 _ _ _ _ _ _ _
      | exact LeO.none _
      | refine LeO.ite ?_ ?_
      | refine LeO.bind ?_ (fun _ => ?_)
def calepinref02_Unfold.T28 : Bool × List (List Nat × List Nat) := (true, [([], []), ([], []), ([1], [1]), ([2], [2]), ([], []), ([], []), ([5], [5]), ([6], [6]), ([4, 7], [4, 7]), ([8], [8]), ([], []), ([10], [10]), ([9, 11], [9, 11]), ([0, 3, 0, 1, 2, 3, 4, 5, 6, 7, 8, 9, 10, 11, 12], [0, 3]), ([13, 12, 0, 1, 2, 3, 4, 5, 6, 7, 8, 9, 10, 11, 12], [12, 13])])
def calepinref02_Unfold.B28 : List Nat := [0, 0, 2, 6, 0, 0, 32, 96, 240, 496, 0, 1024, 4080, 8191, 16383]
theorem calepinref02_Unfold.tab28 : rtab .any (opsOf Tryd.f10 28) = calepinref02_Unfold.T28 := by kernel_rfl
theorem calepinref02_Unfold.bits28 : waitsOk calepinref02_Unfold.T28.2 calepinref02_Unfold.B28 = true := by kernel_rfl
set_option maxHeartbeats 8000000 in
set_option maxRecDepth 100000 in
theorem calepinref02_Unfold.calls (k : Nat) (a0 : ByteArray) (r1 : List ByteArray) (r2 : Bool) (w : World) (h : calepinref02_Unfold.f k a0 = some (r1, r2)) :
    Calls Tryd.prog 10 #[.string a0] w fun e w' => ∃ v0_ : Value, e = .returned (.tuple #[v0_, .bool r2]) ∧ Kd.R Kd.string 9 w' w.heap.size (fun _ => True) v0_ r1 ∧ Below w.heap.size w w' := by
  have HB := Aside0.mk (Below.refl w.heap.size w)
  have H : (calepinref02_Unfold.l0 k a0 ([] : List ByteArray) 0 0) = some (r1, r2) := h
  clear h
  have H' := Aside0.mk H
  clear H
  go_enter Tryd.func10, Tryd.ntmps10
  go_wp2
  go_loopg [4, 5, 6] k (fun kq v4 v5 v6 w' => ∃ (x4_1 : List ByteArray) (x5_1 : Int) (x6_1 : Int), v5 = .int .i64 x5_1 ∧ v6 = .int .i64 x6_1 ∧ Aside0 (calepinref02_Unfold.l0 kq a0 x4_1 x5_1 x6_1 = some (r1, r2)) ∧ Aside0 (kq ≤ k) ∧ Aside0 (Kd.R Kd.string 9 w' w.heap.size (fun _ => True) v4 x4_1) ∧ Aside0 (Below w.heap.size w w'))
  case atStart => exact ⟨(([] : List ByteArray)), (0), (0), (by first | rfl | (simp; done) | (simp [*]; done)), (by first | rfl | (simp; done) | (simp [*]; done)), H', ⟨Nat.le_refl _⟩, ⟨by first | exact Kd.R_nil _ _ _ _ _ | exact Kd.N_nil _ _ _ _ _ | exact Kd.V_nil _ _ _ _ _ | exact Kd.Q_nil _ _ _ _ _ | exact Kd.S_nil _ _ _ _ _⟩, ⟨by repeat (first | (with_reducible first | exact HB.out | apply below_alloc | apply pw_below_drewN | apply below_drew1) | exact HB.out)⟩⟩
  case round =>
    clear H'
    try clear c1
    obtain ⟨x4_1, x5_1, x6_1, rfl, rfl, HA, HK1, HO_4, HB⟩ := hrel
    cases gk with
    | zero => exact absurd HA.out (by simp [calepinref02_Unfold.l0])
    | succ k1 =>
      have H := HA.out
      clear HA
      simp only [calepinref02_Unfold.l0] at H
      by_cases c2 : x6_1 < (a0.size : Int)
      · rw [if_pos c2] at H
        have c2b0 : decide (x6_1 < (a0.size : Int)) = true := decide_eq_true c2
        clear c2
        by_cases c3 : 0 ≤ x6_1
        · rw [if_pos c3] at H
          have c3b0 : decide (0 ≤ x6_1) = true := decide_eq_true c3
          clear c3
          by_cases c5 : (bt a0 x6_1) = 10
          · rw [if_pos c5] at H
            have c5b0 : ((bt a0 x6_1) == 10) = true := beq_iff_eq.mpr c5
            have c5b1 : ((bt a0 x6_1) != 10) = false := bne_eq_false_iff_eq.mpr c5
            clear c5
            by_cases c6 : 0 ≤ x5_1
            · rw [if_pos c6] at H
              have c6b0 := eq_true c6
              have c6b1 : decide (0 ≤ x5_1) = true := decide_eq_true c6
              clear c6
              by_cases c7 : x5_1 ≤ x6_1
              · rw [if_pos c7] at H
                have c7b0 := eq_true c7
                have c7b1 : decide (x5_1 ≤ x6_1) = true := decide_eq_true c7
                clear c7
                by_cases c8 : x6_1 ≤ (a0.size : Int)
                · rw [if_pos c8] at H
                  have c8b0 := eq_true c8
                  have c8b1 : decide (x6_1 ≤ (a0.size : Int)) = true := decide_eq_true c8
                  clear c8
                  obtain ⟨y130, hy130⟩ : ∃ y_ : ByteArray, y_ = (a0.extract (x5_1 : Int).toNat (x6_1 : Int).toNat) := ⟨_, rfl⟩
                  replace H : (if (y130.size : Int) > 0 then (if 0 ≤ (wrap64 ((y130.size : Int) - 1)) then (if (wrap64 ((y130.size : Int) - 1)) < (y130.size : Int) then (if (bt y130 (wrap64 ((y130.size : Int) - 1))) = 13 then (if (wrap64 ((y130.size : Int) - 1)) ≤ (y130.size : Int) then (if x4_1.length < 8796093022208 then (calepinref02_Unfold.l0 k1 a0 (x4_1 ++ [(y130.extract 0 ((wrap64 ((y130.size : Int) - 1)) : Int).toNat)]) (wrap64 (x6_1 + 1)) (wrap64 (x6_1 + 1))) else (none)) else (none)) else (if x4_1.length < 8796093022208 then (calepinref02_Unfold.l0 k1 a0 (x4_1 ++ [y130]) (wrap64 (x6_1 + 1)) (wrap64 (x6_1 + 1))) else (none))) else (none)) else (none)) else (if x4_1.length < 8796093022208 then (calepinref02_Unfold.l0 k1 a0 (x4_1 ++ [y130]) (wrap64 (x6_1 + 1)) (wrap64 (x6_1 + 1))) else (none))) = some (r1, r2) := by first | (rw [hy130]; with_reducible exact H) | (have H2_ := (Option.bind_some _ _).symm.trans H; rw [hy130]; with_reducible exact H2_) | (have H2_ := (Option.bind_some _ _).symm.trans H; with_reducible exact H2_) | with_reducible exact H | (rw [hy130]; exact H) | exact H
                  have Ny130 := Aside0.mk hy130
                  clear hy130
                  have sy130 := Ny130.out.symm
                  by_cases c9 : (y130.size : Int) > 0
                  · rw [if_pos c9] at H
                    have c9b0 : decide (0 < (y130.size : Int)) = true := decide_eq_true c9
                    have c9b1 : decide (0 < y130.size) = true := decide_eq_true (by omega)
                    clear c9
                    obtain ⟨ji10, hji10⟩ : ∃ j_ : Int, (wrap64 ((y130.size : Int) - 1)) = j_ := ⟨_, rfl⟩
                    replace H : (if 0 ≤ (ji10) then (if (ji10) < (y130.size : Int) then (if (bt y130 (ji10)) = 13 then (if (ji10) ≤ (y130.size : Int) then (if x4_1.length < 8796093022208 then (calepinref02_Unfold.l0 k1 a0 (x4_1 ++ [(y130.extract 0 ((ji10) : Int).toNat)]) (wrap64 (x6_1 + 1)) (wrap64 (x6_1 + 1))) else (none)) else (none)) else (if x4_1.length < 8796093022208 then (calepinref02_Unfold.l0 k1 a0 (x4_1 ++ [y130]) (wrap64 (x6_1 + 1)) (wrap64 (x6_1 + 1))) else (none))) else (none)) else (none)) = some (r1, r2) := by first | (rw [hji10] at H; exact H) | (simp only [hji10] at H ⊢; exact H)
                    have hji10w : (IntKind.i64.wrap ((y130.size : Int) - 1)) = ji10 := (i64_w _).trans hji10
                    by_cases c11 : 0 ≤ (ji10)
                    · rw [if_pos c11] at H
                      have c11b0 : decide (0 ≤ (ji10)) = true := decide_eq_true c11
                      clear c11
                      by_cases c12 : (ji10) < (y130.size : Int)
                      · rw [if_pos c12] at H
                        have c12b0 : decide ((ji10) < (y130.size : Int)) = true := decide_eq_true c12
                        clear c12
                        by_cases c14 : (bt y130 (ji10)) = 13
                        · rw [if_pos c14] at H
                          have c14b0 : ((bt y130 (ji10)) == 13) = true := beq_iff_eq.mpr c14
                          have c14b1 : ((bt y130 (ji10)) != 13) = false := bne_eq_false_iff_eq.mpr c14
                          clear c14
                          have c15b0 := eq_true (of_decide_eq_true (by first | (with_reducible assumption) | assumption) : 0 ≤ (ji10))
                          by_cases c16 : (ji10) ≤ (y130.size : Int)
                          · rw [if_pos c16] at H
                            have c16b0 := eq_true c16
                            have c16b1 : decide ((ji10) ≤ (y130.size : Int)) = true := decide_eq_true c16
                            clear c16
                            obtain ⟨y131, hy131⟩ : ∃ y_ : ByteArray, y_ = (y130.extract 0 ((ji10) : Int).toNat) := ⟨_, rfl⟩
                            replace H : (if x4_1.length < 8796093022208 then (calepinref02_Unfold.l0 k1 a0 (x4_1 ++ [y131]) (wrap64 (x6_1 + 1)) (wrap64 (x6_1 + 1))) else (none)) = some (r1, r2) := by first | (rw [hy131]; with_reducible exact H) | (have H2_ := (Option.bind_some _ _).symm.trans H; rw [hy131]; with_reducible exact H2_) | (have H2_ := (Option.bind_some _ _).symm.trans H; with_reducible exact H2_) | with_reducible exact H | (rw [hy131]; exact H) | exact H
                            have Ny131 := Aside0.mk hy131
                            clear hy131
                            have sy131 := Ny131.out.symm
                            by_cases c17 : x4_1.length < 8796093022208
                            · rw [if_pos c17] at H
                              have LMc17 := Aside0.mk c17
                              clear c17
                              obtain ⟨y132, hy132⟩ : ∃ y_ : List ByteArray, y_ = (x4_1 ++ [y131]) := ⟨_, rfl⟩
                              replace H : (calepinref02_Unfold.l0 k1 a0 y132 (wrap64 (x6_1 + 1)) (wrap64 (x6_1 + 1))) = some (r1, r2) := by first | (rw [hy132]; with_reducible exact H) | (have H2_ := (Option.bind_some _ _).symm.trans H; rw [hy132]; with_reducible exact H2_) | (have H2_ := (Option.bind_some _ _).symm.trans H; with_reducible exact H2_) | with_reducible exact H | (rw [hy132]; exact H) | exact H
                              have Ny132 := Aside0.mk hy132
                              clear hy132
                              have H' := Aside0.mk H
                              clear H
                              have p4 : 0 ≤ (x6_1 : Int) := of_decide_eq_true (by first | (with_reducible assumption) | assumption)
                              have q4 : x6_1 < (a0.size : Int) := of_decide_eq_true (by first | (with_reducible assumption) | assumption)
                              have hx4 := bt_at a0 x6_1
                              replace p4 := eq_true p4
                              replace q4 := eq_true q4
                              have p13 : 0 ≤ ((ji10) : Int) := of_decide_eq_true (by first | (with_reducible assumption) | assumption)
                              have q13 : (ji10) < (y130.size : Int) := of_decide_eq_true (by first | (with_reducible assumption) | assumption)
                              have hx13 := bt_at y130 (ji10)
                              replace p13 := eq_true p13
                              replace q13 := eq_true q13
                              go_wp2_with (first | ((with_reducible refine gate_builtin (b := .append) (xs := #[.tmp 42, .tmp 44]) rfl ?_); (try (refine gate_guard (by rfl) ?_; dsimp only)); at_builtin; refine Kd.R_append Kd.string (w0 := w) w.heap.size rfl (.tmp 42) (.tmp 44) 23 9 (.string ⟨#[]⟩) 16 rfl Tryd.underlying23 info9 rfl (by decide) (by omega) u4 x4_1 y131 [.string y131] (fun _ => True) (fun _ => False) rfl rfl ?aP (fun _ hk => hk.elim) ?aF ?aO ?aB ?aS ?aL ?_; (case aP => exact rfl); (case aB => exact (by repeat (first | (with_reducible first | exact HB.out | apply below_alloc | apply pw_below_drewN | apply below_drew1) | exact HB.out))); (case aF => exact (fun _ _ => trivial)); (case aO => exact (by (with_reducible repeat (first | apply Kd.R_alloc | apply Kd.R_drewN | apply Kd.R_drew)); exact HO_4.out)); (case aS => exact (below_size (by repeat (first | (with_reducible first | exact HB.out | apply below_alloc | apply pw_below_drewN | apply below_drew1) | exact HB.out)))); (case aL => have := LMc17.out; omega); intro v133 w18 ho hb hg hat; rw [← Ny132.out] at ho; have n0_ := Aside0.mk (hb); have n1_ := Aside0.mk (ho); clear HB; clear HO_4; have HB := n0_; have HO134 := n1_; clear n0_ n1_; clear ho hb hg hat))
                              go_roundg k1
                              case measure => have := HK1.out; omega
                              case rel => exact ⟨(y132), (wrap64 (x6_1 + 1)), (wrap64 (x6_1 + 1)), (by first | rfl | (simp; done) | (simp [*]; done)), (by first | rfl | (simp; done) | (simp [*]; done)), H', ⟨by have := HK1.out; omega⟩, ⟨by (with_reducible repeat (first | apply Kd.R_alloc | apply Kd.R_drewN | apply Kd.R_drew)); exact HO134.out⟩, ⟨by repeat (first | (with_reducible first | exact HB.out | apply below_alloc | apply pw_below_drewN | apply below_drew1) | exact HB.out)⟩⟩
                            · rw [if_neg c17] at H
                              exact absurd H (by simp)
                          · rw [if_neg c16] at H
                            exact absurd H (by simp)
                        · rw [if_neg c14] at H
                          have c14b0 : ((bt y130 (ji10)) == 13) = false := beq_eq_false_iff_ne.mpr c14
                          have c14b1 : ((bt y130 (ji10)) != 13) = true := bne_iff_ne.mpr c14
                          by_cases c19 : x4_1.length < 8796093022208
                          · rw [if_pos c19] at H
                            have LMc19 := Aside0.mk c19
                            clear c19
                            obtain ⟨y135, hy135⟩ : ∃ y_ : List ByteArray, y_ = (x4_1 ++ [y130]) := ⟨_, rfl⟩
                            replace H : (calepinref02_Unfold.l0 k1 a0 y135 (wrap64 (x6_1 + 1)) (wrap64 (x6_1 + 1))) = some (r1, r2) := by first | (rw [hy135]; with_reducible exact H) | (have H2_ := (Option.bind_some _ _).symm.trans H; rw [hy135]; with_reducible exact H2_) | (have H2_ := (Option.bind_some _ _).symm.trans H; with_reducible exact H2_) | with_reducible exact H | (rw [hy135]; exact H) | exact H
                            have Ny135 := Aside0.mk hy135
                            clear hy135
                            have H' := Aside0.mk H
                            clear H
                            have p4 : 0 ≤ (x6_1 : Int) := of_decide_eq_true (by first | (with_reducible assumption) | assumption)
                            have q4 : x6_1 < (a0.size : Int) := of_decide_eq_true (by first | (with_reducible assumption) | assumption)
                            have hx4 := bt_at a0 x6_1
                            replace p4 := eq_true p4
                            replace q4 := eq_true q4
                            have p13 : 0 ≤ ((ji10) : Int) := of_decide_eq_true (by first | (with_reducible assumption) | assumption)
                            have q13 : (ji10) < (y130.size : Int) := of_decide_eq_true (by first | (with_reducible assumption) | assumption)
                            have hx13 := bt_at y130 (ji10)
                            replace p13 := eq_true p13
                            replace q13 := eq_true q13
                            go_wp2_with (first | ((with_reducible refine gate_builtin (b := .append) (xs := #[.tmp 42, .tmp 44]) rfl ?_); (try (refine gate_guard (by rfl) ?_; dsimp only)); at_builtin; refine Kd.R_append Kd.string (w0 := w) w.heap.size rfl (.tmp 42) (.tmp 44) 23 9 (.string ⟨#[]⟩) 16 rfl Tryd.underlying23 info9 rfl (by decide) (by omega) u4 x4_1 y130 [.string y130] (fun _ => True) (fun _ => False) rfl rfl ?aP (fun _ hk => hk.elim) ?aF ?aO ?aB ?aS ?aL ?_; (case aP => exact rfl); (case aB => exact (by repeat (first | (with_reducible first | exact HB.out | apply below_alloc | apply pw_below_drewN | apply below_drew1) | exact HB.out))); (case aF => exact (fun _ _ => trivial)); (case aO => exact (by (with_reducible repeat (first | apply Kd.R_alloc | apply Kd.R_drewN | apply Kd.R_drew)); exact HO_4.out)); (case aS => exact (below_size (by repeat (first | (with_reducible first | exact HB.out | apply below_alloc | apply pw_below_drewN | apply below_drew1) | exact HB.out)))); (case aL => have := LMc19.out; omega); intro v136 w20 ho hb hg hat; rw [← Ny135.out] at ho; have n0_ := Aside0.mk (hb); have n1_ := Aside0.mk (ho); clear HB; clear HO_4; have HB := n0_; have HO137 := n1_; clear n0_ n1_; clear ho hb hg hat))
                            go_roundg k1
                            case measure => have := HK1.out; omega
                            case rel => exact ⟨(y135), (wrap64 (x6_1 + 1)), (wrap64 (x6_1 + 1)), (by first | rfl | (simp; done) | (simp [*]; done)), (by first | rfl | (simp; done) | (simp [*]; done)), H', ⟨by have := HK1.out; omega⟩, ⟨by (with_reducible repeat (first | apply Kd.R_alloc | apply Kd.R_drewN | apply Kd.R_drew)); exact HO137.out⟩, ⟨by repeat (first | (with_reducible first | exact HB.out | apply below_alloc | apply pw_below_drewN | apply below_drew1) | exact HB.out)⟩⟩
                          · rw [if_neg c19] at H
                            exact absurd H (by simp)
                      · rw [if_neg c12] at H
                        exact absurd H (by simp)
                    · rw [if_neg c11] at H
                      exact absurd H (by simp)
                  · rw [if_neg c9] at H
                    have c9b0 : decide (0 < (y130.size : Int)) = false := decide_eq_false c9
                    have c9b1 : decide (0 < y130.size) = false := decide_eq_false (by omega)
                    clear c9
                    by_cases c21 : x4_1.length < 8796093022208
                    · rw [if_pos c21] at H
                      have LMc21 := Aside0.mk c21
                      clear c21
                      obtain ⟨y138, hy138⟩ : ∃ y_ : List ByteArray, y_ = (x4_1 ++ [y130]) := ⟨_, rfl⟩
                      replace H : (calepinref02_Unfold.l0 k1 a0 y138 (wrap64 (x6_1 + 1)) (wrap64 (x6_1 + 1))) = some (r1, r2) := by first | (rw [hy138]; with_reducible exact H) | (have H2_ := (Option.bind_some _ _).symm.trans H; rw [hy138]; with_reducible exact H2_) | (have H2_ := (Option.bind_some _ _).symm.trans H; with_reducible exact H2_) | with_reducible exact H | (rw [hy138]; exact H) | exact H
                      have Ny138 := Aside0.mk hy138
                      clear hy138
                      have H' := Aside0.mk H
                      clear H
                      have p4 : 0 ≤ (x6_1 : Int) := of_decide_eq_true (by first | (with_reducible assumption) | assumption)
                      have q4 : x6_1 < (a0.size : Int) := of_decide_eq_true (by first | (with_reducible assumption) | assumption)
                      have hx4 := bt_at a0 x6_1
                      replace p4 := eq_true p4
                      replace q4 := eq_true q4
                      go_wp2_with (first | ((with_reducible refine gate_builtin (b := .append) (xs := #[.tmp 42, .tmp 44]) rfl ?_); (try (refine gate_guard (by rfl) ?_; dsimp only)); at_builtin; refine Kd.R_append Kd.string (w0 := w) w.heap.size rfl (.tmp 42) (.tmp 44) 23 9 (.string ⟨#[]⟩) 16 rfl Tryd.underlying23 info9 rfl (by decide) (by omega) u4 x4_1 y130 [.string y130] (fun _ => True) (fun _ => False) rfl rfl ?aP (fun _ hk => hk.elim) ?aF ?aO ?aB ?aS ?aL ?_; (case aP => exact rfl); (case aB => exact (by repeat (first | (with_reducible first | exact HB.out | apply below_alloc | apply pw_below_drewN | apply below_drew1) | exact HB.out))); (case aF => exact (fun _ _ => trivial)); (case aO => exact (by (with_reducible repeat (first | apply Kd.R_alloc | apply Kd.R_drewN | apply Kd.R_drew)); exact HO_4.out)); (case aS => exact (below_size (by repeat (first | (with_reducible first | exact HB.out | apply below_alloc | apply pw_below_drewN | apply below_drew1) | exact HB.out)))); (case aL => have := LMc21.out; omega); intro v139 w22 ho hb hg hat; rw [← Ny138.out] at ho; have n0_ := Aside0.mk (hb); have n1_ := Aside0.mk (ho); clear HB; clear HO_4; have HB := n0_; have HO140 := n1_; clear n0_ n1_; clear ho hb hg hat))
                      go_roundg k1
                      case measure => have := HK1.out; omega
                      case rel => exact ⟨(y138), (wrap64 (x6_1 + 1)), (wrap64 (x6_1 + 1)), (by first | rfl | (simp; done) | (simp [*]; done)), (by first | rfl | (simp; done) | (simp [*]; done)), H', ⟨by have := HK1.out; omega⟩, ⟨by (with_reducible repeat (first | apply Kd.R_alloc | apply Kd.R_drewN | apply Kd.R_drew)); exact HO140.out⟩, ⟨by repeat (first | (with_reducible first | exact HB.out | apply below_alloc | apply pw_below_drewN | apply below_drew1) | exact HB.out)⟩⟩
                    · rw [if_neg c21] at H
                      exact absurd H (by simp)
                · rw [if_neg c8] at H
                  exact absurd H (by simp)
              · rw [if_neg c7] at H
                exact absurd H (by simp)
            · rw [if_neg c6] at H
              exact absurd H (by simp)
          · rw [if_neg c5] at H
            have c5b0 : ((bt a0 x6_1) == 10) = false := beq_eq_false_iff_ne.mpr c5
            have c5b1 : ((bt a0 x6_1) != 10) = true := bne_iff_ne.mpr c5
            have H' := Aside0.mk H
            clear H
            have p4 : 0 ≤ (x6_1 : Int) := of_decide_eq_true (by first | (with_reducible assumption) | assumption)
            have q4 : x6_1 < (a0.size : Int) := of_decide_eq_true (by first | (with_reducible assumption) | assumption)
            have hx4 := bt_at a0 x6_1
            replace p4 := eq_true p4
            replace q4 := eq_true q4
            go_wp2
            go_roundg k1
            case measure => have := HK1.out; omega
            case rel => exact ⟨(x4_1), (x5_1), (wrap64 (x6_1 + 1)), (by first | rfl | (simp; done) | (simp [*]; done)), (by first | rfl | (simp; done) | (simp [*]; done)), H', ⟨by have := HK1.out; omega⟩, ⟨by (with_reducible repeat (first | apply Kd.R_alloc | apply Kd.R_drewN | apply Kd.R_drew)); exact HO_4.out⟩, ⟨by repeat (first | (with_reducible first | exact HB.out | apply below_alloc | apply pw_below_drewN | apply below_drew1) | exact HB.out)⟩⟩
        · rw [if_neg c3] at H
          exact absurd H (by simp)
      · rw [if_neg c2] at H
        have c2b0 : decide (x6_1 < (a0.size : Int)) = false := decide_eq_false c2
        clear c2
        by_cases c23 : x5_1 < (a0.size : Int)
        · rw [if_pos c23] at H
          have c23b0 : decide (x5_1 < (a0.size : Int)) = true := decide_eq_true c23
          clear c23
          simp only [Option.some.injEq, Prod.mk.injEq] at H
          obtain ⟨rfl, rfl⟩ := H
          go_wp2
          go_ret2
          exact ⟨_, by first | rfl | (simp [errW_none, errW_some] <;> rfl) | (simp [*, errW_none, errW_some] <;> rfl), by first | exact Kd.R_nil _ _ _ _ _ | exact Kd.N_nil _ _ _ _ _ | exact Kd.V_nil _ _ _ _ _ | exact Kd.Q_nil _ _ _ _ _ | exact Kd.S_nil _ _ _ _ _, by repeat (first | (with_reducible first | exact HB.out | apply below_alloc | apply pw_below_drewN | apply below_drew1) | exact HB.out)⟩
        · rw [if_neg c23] at H
          have c23b0 : decide (x5_1 < (a0.size : Int)) = false := decide_eq_false c23
          clear c23
          have H' := Aside0.mk H
          clear H
          obtain ⟨Ao24, co24, eo24⟩ := Kd.R_slice HO_4.out
          subst eo24
          go_wp2
          go_loopg [8, 54] k1 (fun kq v8 v54 w' => ∃ (x8_2 : List ByteArray) (x52_2 : List ByteArray) (x54_2 : Int), v54 = .int .i64 x54_2 ∧ Aside0 (calepinref02_Unfold.l1 kq x8_2 x52_2 (x4_1.length : Int) x54_2 = some (r1, r2)) ∧ Aside0 (kq ≤ k1) ∧ Aside0 (Kd.R Kd.string 9 w' w.heap.size (fun k_ => some k_ ≠ ((.slice Ao24 x4_1.length co24) : Value).ownBlock) v8 x8_2) ∧ Aside0 (Kd.R Kd.string 9 w' w.heap.size (fun k_ => some k_ ≠ (v8 : Value).ownBlock) (.slice Ao24 x4_1.length co24) x52_2) ∧ Aside0 (Below w.heap.size w w'))
          case atStart => exact ⟨(([] : List ByteArray)), (x4_1), (0), (by first | rfl | (simp; done) | (simp [*]; done)), H', ⟨Nat.le_refl _⟩, ⟨by first | exact Kd.R_nil _ _ _ _ _ | exact Kd.N_nil _ _ _ _ _ | exact Kd.V_nil _ _ _ _ _ | exact Kd.Q_nil _ _ _ _ _ | exact Kd.S_nil _ _ _ _ _⟩, ⟨by (with_reducible repeat (first | apply Kd.R_alloc | apply Kd.R_drewN | apply Kd.R_drew)); exact Kd.R_mono HO_4.out (fun _ hk => (by simp [Value.ownBlock]))⟩, ⟨by repeat (first | (with_reducible first | exact HB.out | apply below_alloc | apply pw_below_drewN | apply below_drew1) | exact HB.out)⟩⟩
          case round =>
            clear H'
            try clear c1
            try clear p1
            try clear q1
            try clear hx1
            try clear c2
            try clear c2b0
            try clear p2
            try clear c3
            try clear c3b0
            try clear p4
            try clear q4
            try clear hx4
            try clear c5
            try clear c5b0
            try clear c5b1
            try clear c6
            try clear c6b0
            try clear c6b1
            try clear p6
            try clear c7
            try clear c7b0
            try clear c7b1
            try clear c8
            try clear c8b0
            try clear c8b1
            try clear c9
            try clear c9b0
            try clear c9b1
            try clear c10
            try clear c11
            try clear c11b0
            try clear c12
            try clear c12b0
            try clear p13
            try clear q13
            try clear hx13
            try clear c14
            try clear c14b0
            try clear c14b1
            try clear c15
            try clear c15b0
            try clear c16
            try clear c16b0
            try clear c16b1
            try clear c17
            try clear c19
            try clear c21
            try clear c23
            try clear c23b0
            try clear p13
            try clear p4
            try clear q13
            try clear q4
            obtain ⟨x8_2, x52_2, x54_2, rfl, HA, HK2, HO_8, HO_52, HB⟩ := hrel
            have hl52_2 := (Kd.R_reads' HO_52.out).1
            rw [hl52_2] at HO_52
            (try simp only [hl52_2])
            (try simp only [hl52_2] at HO_8)
            cases gk with
            | zero => exact absurd HA.out (by simp [calepinref02_Unfold.l1])
            | succ k2 =>
              have H := HA.out
              clear HA
              simp only [calepinref02_Unfold.l1] at H
              by_cases c25 : x54_2 < (x4_1.length : Int)
              · rw [if_pos c25] at H
                have c25b0 : decide (x54_2 < (x4_1.length : Int)) = true := decide_eq_true c25
                (try (have c25b0h := c25b0; simp only [hl52_2] at c25b0h))
                clear c25
                by_cases c26 : 0 ≤ x54_2
                · rw [if_pos c26] at H
                  have c26b0 : decide (0 ≤ x54_2) = true := decide_eq_true c26
                  clear c26
                  by_cases c27 : x54_2 < (x52_2.length : Int)
                  · rw [if_pos c27] at H
                    have c27b0 : decide (x54_2 < (x52_2.length : Int)) = true := decide_eq_true c27
                    (try (have c27b0h := c27b0; simp only [hl52_2] at c27b0h))
                    clear c27
                    by_cases c28 : ((rdOf ByteArray.empty x52_2 x54_2).size : Int) = 0
                    · rw [if_pos c28] at H
                      have c28b0 : (((rdOf ByteArray.empty x52_2 x54_2).size : Int) == 0) = true := beq_iff_eq.mpr c28
                      have c28b1 : (((rdOf ByteArray.empty x52_2 x54_2).size : Int) != 0) = false := bne_eq_false_iff_eq.mpr c28
                      clear c28
                      simp only [Option.some.injEq, Prod.mk.injEq] at H
                      obtain ⟨rfl, rfl⟩ := H
                      have p141 : 0 ≤ (x54_2 : Int) := of_decide_eq_true (by first | (with_reducible assumption) | assumption)
                      have q141 : x54_2 < (x52_2.length : Int) := of_decide_eq_true (by first | (with_reducible assumption) | assumption)
                      obtain ⟨ad141, e141, hx141_0⟩ := Kd.at_string (Kd.R_reads' HO_52.out).2.2 x54_2 p141 q141
                      cases e141
                      replace p141 := eq_true p141
                      replace q141 := eq_true q141
                      go_wp2
                      go_ret2
                      exact ⟨_, by first | rfl | (simp [errW_none, errW_some] <;> rfl) | (simp [*, errW_none, errW_some] <;> rfl), by first | exact Kd.R_nil _ _ _ _ _ | exact Kd.N_nil _ _ _ _ _ | exact Kd.V_nil _ _ _ _ _ | exact Kd.Q_nil _ _ _ _ _ | exact Kd.S_nil _ _ _ _ _, by repeat (first | (with_reducible first | exact HB.out | apply below_alloc | apply pw_below_drewN | apply below_drew1) | exact HB.out)⟩
                    · rw [if_neg c28] at H
                      have c28b0 : (((rdOf ByteArray.empty x52_2 x54_2).size : Int) == 0) = false := beq_eq_false_iff_ne.mpr c28
                      have c28b1 : (((rdOf ByteArray.empty x52_2 x54_2).size : Int) != 0) = true := bne_iff_ne.mpr c28
                      have H' := Aside0.mk H
                      clear H
                      have p141 : 0 ≤ (x54_2 : Int) := of_decide_eq_true (by first | (with_reducible assumption) | assumption)
                      have q141 : x54_2 < (x52_2.length : Int) := of_decide_eq_true (by first | (with_reducible assumption) | assumption)
                      obtain ⟨ad141, e141, hx141_0⟩ := Kd.at_string (Kd.R_reads' HO_52.out).2.2 x54_2 p141 q141
                      cases e141
                      replace p141 := eq_true p141
                      replace q141 := eq_true q141
                      go_wp2
                      go_loopg [11] k2 (fun kq v11 w' => ∃ (x11_3 : Int), v11 = .int .i64 x11_3 ∧ Aside0 (calepinref02_Unfold.l2 kq x8_2 x54_2 (rdOf ByteArray.empty x52_2 x54_2) x11_3 x52_2 (x4_1.length : Int) x54_2 = some (r1, r2)) ∧ Aside0 (kq ≤ k2) ∧ Aside0 (Kd.R Kd.string 9 w' w.heap.size (fun k_ => some k_ ≠ ((.slice (some ad141) x52_2.length co24) : Value).ownBlock) u8 x8_2) ∧ Aside0 (Kd.R Kd.string 9 w' w.heap.size (fun k_ => some k_ ≠ (u8 : Value).ownBlock) (.slice (some ad141) x52_2.length co24) x52_2) ∧ Aside0 (Below w.heap.size w w'))
                      case atStart => exact ⟨(0), (by first | rfl | (simp; done) | (simp [*]; done)), H', ⟨Nat.le_refl _⟩, ⟨by (try simp only [hl52_2]); (with_reducible repeat (first | apply Kd.R_alloc | apply Kd.R_drewN | apply Kd.R_drew)); exact HO_8.out⟩, ⟨by (try simp only [hl52_2]); (with_reducible repeat (first | apply Kd.R_alloc | apply Kd.R_drewN | apply Kd.R_drew)); exact HO_52.out⟩, ⟨by repeat (first | (with_reducible first | exact HB.out | apply below_alloc | apply pw_below_drewN | apply below_drew1) | exact HB.out)⟩⟩
                      case round =>
                        clear H'
                        try clear c1
                        try clear p1
                        try clear q1
                        try clear hx1
                        try clear c2
                        try clear c2b0
                        try clear p2
                        try clear c3
                        try clear c3b0
                        try clear p4
                        try clear q4
                        try clear hx4
                        try clear c5
                        try clear c5b0
                        try clear c5b1
                        try clear c6
                        try clear c6b0
                        try clear c6b1
                        try clear p6
                        try clear c7
                        try clear c7b0
                        try clear c7b1
                        try clear c8
                        try clear c8b0
                        try clear c8b1
                        try clear c9
                        try clear c9b0
                        try clear c9b1
                        try clear c10
                        try clear c11
                        try clear c11b0
                        try clear c12
                        try clear c12b0
                        try clear p13
                        try clear q13
                        try clear hx13
                        try clear c14
                        try clear c14b0
                        try clear c14b1
                        try clear p14
                        try clear q14
                        try clear hx14
                        try clear c15
                        try clear c15b0
                        try clear c16
                        try clear c16b0
                        try clear c16b1
                        try clear c17
                        try clear c19
                        try clear c21
                        try clear c23
                        try clear c23b0
                        try clear c25
                        try clear c25b0
                        try clear c26
                        try clear c26b0
                        try clear c27
                        try clear c27b0
                        try clear c28
                        try clear c28b0
                        try clear c28b1
                        try clear hx141_0
                        try clear p1
                        try clear p13
                        try clear p141
                        try clear p2
                        try clear p4
                        try clear p6
                        try clear q1
                        try clear q13
                        try clear q141
                        try clear q4
                        obtain ⟨x11_3, rfl, HA, HK3, HO_8, HO_52, HB⟩ := hrel
                        cases gk with
                        | zero => exact absurd HA.out (by simp [calepinref02_Unfold.l2])
                        | succ k3 =>
                          have H := HA.out
                          clear HA
                          simp only [calepinref02_Unfold.l2] at H
                          by_cases c29 : x11_3 < ((rdOf ByteArray.empty x52_2 x54_2).size : Int)
                          · rw [if_pos c29] at H
                            have c29b0 : decide (x11_3 < ((rdOf ByteArray.empty x52_2 x54_2).size : Int)) = true := decide_eq_true c29
                            clear c29
                            by_cases c30 : 0 ≤ x11_3
                            · rw [if_pos c30] at H
                              have c30b0 : decide (0 ≤ x11_3) = true := decide_eq_true c30
                              clear c30
                              by_cases c32 : (bt (rdOf ByteArray.empty x52_2 x54_2) x11_3) = 13
                              · rw [if_pos c32] at H
                                have c32b0 : ((bt (rdOf ByteArray.empty x52_2 x54_2) x11_3) == 13) = true := beq_iff_eq.mpr c32
                                have c32b1 : ((bt (rdOf ByteArray.empty x52_2 x54_2) x11_3) != 13) = false := bne_eq_false_iff_eq.mpr c32
                                clear c32
                                simp only [Option.some.injEq, Prod.mk.injEq] at H
                                obtain ⟨rfl, rfl⟩ := H
                                have p31 : 0 ≤ (x11_3 : Int) := of_decide_eq_true (by first | (with_reducible assumption) | assumption)
                                have q31 : x11_3 < ((rdOf ByteArray.empty x52_2 x54_2).size : Int) := of_decide_eq_true (by first | (with_reducible assumption) | assumption)
                                have hx31 := bt_at (rdOf ByteArray.empty x52_2 x54_2) x11_3
                                replace p31 := eq_true p31
                                replace q31 := eq_true q31
                                go_wp2
                                go_ret2
                                exact ⟨_, by first | rfl | (simp [errW_none, errW_some] <;> rfl) | (simp [*, errW_none, errW_some] <;> rfl), by first | exact Kd.R_nil _ _ _ _ _ | exact Kd.N_nil _ _ _ _ _ | exact Kd.V_nil _ _ _ _ _ | exact Kd.Q_nil _ _ _ _ _ | exact Kd.S_nil _ _ _ _ _, by repeat (first | (with_reducible first | exact HB.out | apply below_alloc | apply pw_below_drewN | apply below_drew1) | exact HB.out)⟩
                              · rw [if_neg c32] at H
                                have c32b0 : ((bt (rdOf ByteArray.empty x52_2 x54_2) x11_3) == 13) = false := beq_eq_false_iff_ne.mpr c32
                                have c32b1 : ((bt (rdOf ByteArray.empty x52_2 x54_2) x11_3) != 13) = true := bne_iff_ne.mpr c32
                                have H' := Aside0.mk H
                                clear H
                                have p31 : 0 ≤ (x11_3 : Int) := of_decide_eq_true (by first | (with_reducible assumption) | assumption)
                                have q31 : x11_3 < ((rdOf ByteArray.empty x52_2 x54_2).size : Int) := of_decide_eq_true (by first | (with_reducible assumption) | assumption)
                                have hx31 := bt_at (rdOf ByteArray.empty x52_2 x54_2) x11_3
                                replace p31 := eq_true p31
                                replace q31 := eq_true q31
                                go_wp2
                                go_roundg k3
                                case measure => have := HK1.out; have := HK2.out; have := HK3.out; omega
                                case rel => exact ⟨(wrap64 (x11_3 + 1)), (by first | rfl | (simp; done) | (simp [*]; done)), H', ⟨by have := HK1.out; have := HK2.out; have := HK3.out; omega⟩, ⟨by (try simp only [hl52_2]); (with_reducible repeat (first | apply Kd.R_alloc | apply Kd.R_drewN | apply Kd.R_drew)); exact HO_8.out⟩, ⟨by (try simp only [hl52_2]); (with_reducible repeat (first | apply Kd.R_alloc | apply Kd.R_drewN | apply Kd.R_drew)); exact HO_52.out⟩, ⟨by repeat (first | (with_reducible first | exact HB.out | apply below_alloc | apply pw_below_drewN | apply below_drew1) | exact HB.out)⟩⟩
                            · rw [if_neg c30] at H
                              exact absurd H (by simp)
                          · rw [if_neg c29] at H
                            have c29b0 : decide (x11_3 < ((rdOf ByteArray.empty x52_2 x54_2).size : Int)) = false := decide_eq_false c29
                            clear c29
                            have HC33 := Aside0.mk H
                            clear H
                            go_upto_region 25 with (fail)
                            go_cut [79] (fun v79 wc => ∃ (kq : Nat) (x79_32 : Bool), v79 = .bool x79_32 ∧ Aside0 (calepinref02_Unfold.j3 kq x8_2 x54_2 (rdOf ByteArray.empty x52_2 x54_2) x52_2 (x4_1.length : Int) x54_2 x79_32 = some (r1, r2)) ∧ Aside0 (kq ≤ k3) ∧ Aside0 (Kd.R Kd.string 9 wc w.heap.size (fun k_ => some k_ ≠ ((.slice (some ad141) x52_2.length co24) : Value).ownBlock) u8 x8_2) ∧ Aside0 (Kd.R Kd.string 9 wc w.heap.size (fun k_ => some k_ ≠ (u8 : Value).ownBlock) (.slice (some ad141) x52_2.length co24) x52_2) ∧ Aside0 (Below w.heap.size w wc))
                            case first =>
                              have H := HC33.out
                              clear HC33
                              by_cases c34 : 0 < ((rdOf ByteArray.empty x52_2 x54_2).size : Int)
                              · rw [if_pos c34] at H
                                have c34b0 : decide (0 < ((rdOf ByteArray.empty x52_2 x54_2).size : Int)) = true := decide_eq_true c34
                                have c34b1 : decide (0 < (rdOf ByteArray.empty x52_2 x54_2).size) = true := decide_eq_true (by omega)
                                clear c34
                                (first | rw [c34b0] | (simp only [i64_w, i32_w]; rw [c34b0]) | skip)
                                by_cases c36 : (bt (rdOf ByteArray.empty x52_2 x54_2) 0) = 32
                                · rw [if_pos c36] at H
                                  have c36b0 : ((bt (rdOf ByteArray.empty x52_2 x54_2) 0) == 32) = true := beq_iff_eq.mpr c36
                                  have c36b1 : ((bt (rdOf ByteArray.empty x52_2 x54_2) 0) != 32) = false := bne_eq_false_iff_eq.mpr c36
                                  clear c36
                                  have H' := Aside0.mk H
                                  clear H
                                  have p35 : 0 ≤ (0 : Int) := (by omega)
                                  have q35 : 0 < (rdOf ByteArray.empty x52_2 x54_2).size := (by have : (0 : Int) < ((rdOf ByteArray.empty x52_2 x54_2).size : Int) := of_decide_eq_true (by first | (with_reducible assumption) | assumption); omega)
                                  have hx35 : ∀ h : 0 < (rdOf ByteArray.empty x52_2 x54_2).size, (((rdOf ByteArray.empty x52_2 x54_2)[0]'h).toNat : Int) = bt (rdOf ByteArray.empty x52_2 x54_2) 0 := bt_at (rdOf ByteArray.empty x52_2 x54_2) 0
                                  clear p35
                                  have qi35 : (0 < ((rdOf ByteArray.empty x52_2 x54_2).size : Int)) = True := eq_true (of_decide_eq_true (by first | (with_reducible assumption) | assumption))
                                  replace q35 := eq_true q35
                                  go_wp2
                                  go_meet
                                  case rel => exact ⟨_, (true), (by first | rfl | (simp; done) | (simp [*]; done)), H', ⟨by have := HK1.out; have := HK2.out; have := HK3.out; first | omega | exact Nat.le_refl _⟩, ⟨by (try simp only [hl52_2]); (with_reducible repeat (first | apply Kd.R_alloc | apply Kd.R_drewN | apply Kd.R_drew)); exact HO_8.out⟩, ⟨by (try simp only [hl52_2]); (with_reducible repeat (first | apply Kd.R_alloc | apply Kd.R_drewN | apply Kd.R_drew)); exact HO_52.out⟩, ⟨by repeat (first | (with_reducible first | exact HB.out | apply below_alloc | apply pw_below_drewN | apply below_drew1) | exact HB.out)⟩⟩
                                · rw [if_neg c36] at H
                                  have c36b0 : ((bt (rdOf ByteArray.empty x52_2 x54_2) 0) == 32) = false := beq_eq_false_iff_ne.mpr c36
                                  have c36b1 : ((bt (rdOf ByteArray.empty x52_2 x54_2) 0) != 32) = true := bne_iff_ne.mpr c36
                                  have H' := Aside0.mk H
                                  clear H
                                  have p35 : 0 ≤ (0 : Int) := (by omega)
                                  have q35 : 0 < (rdOf ByteArray.empty x52_2 x54_2).size := (by have : (0 : Int) < ((rdOf ByteArray.empty x52_2 x54_2).size : Int) := of_decide_eq_true (by first | (with_reducible assumption) | assumption); omega)
                                  have hx35 : ∀ h : 0 < (rdOf ByteArray.empty x52_2 x54_2).size, (((rdOf ByteArray.empty x52_2 x54_2)[0]'h).toNat : Int) = bt (rdOf ByteArray.empty x52_2 x54_2) 0 := bt_at (rdOf ByteArray.empty x52_2 x54_2) 0
                                  clear p35
                                  have qi35 : (0 < ((rdOf ByteArray.empty x52_2 x54_2).size : Int)) = True := eq_true (of_decide_eq_true (by first | (with_reducible assumption) | assumption))
                                  replace q35 := eq_true q35
                                  have p37 : 0 ≤ (0 : Int) := (by omega)
                                  have q37 : 0 < (rdOf ByteArray.empty x52_2 x54_2).size := (by have : (0 : Int) < ((rdOf ByteArray.empty x52_2 x54_2).size : Int) := of_decide_eq_true (by first | (with_reducible assumption) | assumption); omega)
                                  have hx37 : ∀ h : 0 < (rdOf ByteArray.empty x52_2 x54_2).size, (((rdOf ByteArray.empty x52_2 x54_2)[0]'h).toNat : Int) = bt (rdOf ByteArray.empty x52_2 x54_2) 0 := bt_at (rdOf ByteArray.empty x52_2 x54_2) 0
                                  clear p37
                                  have qi37 : (0 < ((rdOf ByteArray.empty x52_2 x54_2).size : Int)) = True := eq_true (of_decide_eq_true (by first | (with_reducible assumption) | assumption))
                                  replace q37 := eq_true q37
                                  go_wp2
                                  go_meet
                                  case rel => exact ⟨_, (((bt (rdOf ByteArray.empty x52_2 x54_2) 0) == 9)), (by first | rfl | (simp; done) | (simp [*]; done)), H', ⟨by have := HK1.out; have := HK2.out; have := HK3.out; first | omega | exact Nat.le_refl _⟩, ⟨by (try simp only [hl52_2]); (with_reducible repeat (first | apply Kd.R_alloc | apply Kd.R_drewN | apply Kd.R_drew)); exact HO_8.out⟩, ⟨by (try simp only [hl52_2]); (with_reducible repeat (first | apply Kd.R_alloc | apply Kd.R_drewN | apply Kd.R_drew)); exact HO_52.out⟩, ⟨by repeat (first | (with_reducible first | exact HB.out | apply below_alloc | apply pw_below_drewN | apply below_drew1) | exact HB.out)⟩⟩
                              · rw [if_neg c34] at H
                                exact absurd H (by simp)
                            case rest =>
                              clear HC33
                              try clear c1
                              try clear p1
                              try clear q1
                              try clear hx1
                              try clear c2
                              try clear c2b0
                              try clear p2
                              try clear c3
                              try clear c3b0
                              try clear p3
                              try clear q3
                              try clear hx3
                              try clear qi3
                              try clear p4
                              try clear q4
                              try clear hx4
                              try clear c5
                              try clear c5b0
                              try clear c5b1
                              try clear c6
                              try clear c6b0
                              try clear c6b1
                              try clear p6
                              try clear c7
                              try clear c7b0
                              try clear c7b1
                              try clear c8
                              try clear c8b0
                              try clear c8b1
                              try clear c9
                              try clear c9b0
                              try clear c9b1
                              try clear c10
                              try clear c11
                              try clear c11b0
                              try clear c12
                              try clear c12b0
                              try clear p13
                              try clear q13
                              try clear hx13
                              try clear c14
                              try clear c14b0
                              try clear c14b1
                              try clear p14
                              try clear q14
                              try clear hx14
                              try clear c15
                              try clear c15b0
                              try clear c16
                              try clear c16b0
                              try clear c16b1
                              try clear c17
                              try clear c19
                              try clear c21
                              try clear c23
                              try clear c23b0
                              try clear c25
                              try clear c25b0
                              try clear c26
                              try clear c26b0
                              try clear c27
                              try clear c27b0
                              try clear c28
                              try clear c28b0
                              try clear c28b1
                              try clear c29
                              try clear c29b0
                              try clear c30
                              try clear c30b0
                              try clear p31
                              try clear q31
                              try clear hx31
                              try clear c32
                              try clear c32b0
                              try clear c32b1
                              try clear c34
                              try clear c34b0
                              try clear c34b1
                              try clear p35
                              try clear q35
                              try clear hx35
                              try clear qi35
                              try clear c36
                              try clear c36b0
                              try clear c36b1
                              try clear p37
                              try clear q37
                              try clear hx37
                              try clear qi37
                              try clear hx141_0
                              try clear p1
                              try clear p13
                              try clear p14
                              try clear p141
                              try clear p2
                              try clear p31
                              try clear p35
                              try clear p37
                              try clear p4
                              try clear p6
                              try clear q1
                              try clear q13
                              try clear q14
                              try clear q141
                              try clear q31
                              try clear q35
                              try clear q37
                              try clear q4
                              obtain ⟨kq, x79_32, rfl, HA, HJ32, HO_8, HO_52, HB⟩ := hcut
                              cases kq with
                              | zero => exact absurd HA.out (by simp [calepinref02_Unfold.j3])
                              | succ kj32 =>
                                have H := HA.out
                                clear HA
                                simp only [calepinref02_Unfold.j3] at H
                                by_cases c38 : x79_32 = true
                                · subst c38
                                  have H1 : (if x54_2 = 0 then (some (([] : List ByteArray), false)) else (if 0 ≤ (wrap64 ((x8_2.length : Int) - 1)) then (if (wrap64 ((x8_2.length : Int) - 1)) < (x8_2.length : Int) then (if 1 ≤ ((rdOf ByteArray.empty x52_2 x54_2).size : Int) then ((some ((rdOf ByteArray.empty x52_2 x54_2).extract 1 (rdOf ByteArray.empty x52_2 x54_2).size : ByteArray)).bind fun y143 => (if (rdOf ByteArray.empty x8_2 (wrap64 ((x8_2.length : Int) - 1))).size + y143.size ≤ 9223372036854775807 then (calepinref02_Unfold.l1 kj32 (x8_2.set ((wrap64 ((x8_2.length : Int) - 1)) : Int).toNat ((rdOf ByteArray.empty x8_2 (wrap64 ((x8_2.length : Int) - 1))) ++ y143)) x52_2 (x4_1.length : Int) (wrap64 (x54_2 + 1))) else (none))) else (none)) else (none)) else (none))) = some (r1, r2) := by rw [if_pos rfl] at H; exact H
                                  clear H
                                  have H := H1
                                  clear H1
                                  by_cases c39 : x54_2 = 0
                                  · rw [if_pos c39] at H
                                    have c39b0 : (x54_2 == 0) = true := beq_iff_eq.mpr c39
                                    have c39b1 : (x54_2 != 0) = false := bne_eq_false_iff_eq.mpr c39
                                    clear c39
                                    simp only [Option.some.injEq, Prod.mk.injEq] at H
                                    obtain ⟨rfl, rfl⟩ := H
                                    go_wp2
                                    go_ret2
                                    exact ⟨_, by first | rfl | (simp [errW_none, errW_some] <;> rfl) | (simp [*, errW_none, errW_some] <;> rfl), by first | exact Kd.R_nil _ _ _ _ _ | exact Kd.N_nil _ _ _ _ _ | exact Kd.V_nil _ _ _ _ _ | exact Kd.Q_nil _ _ _ _ _ | exact Kd.S_nil _ _ _ _ _, by repeat (first | (with_reducible first | exact HB.out | apply below_alloc | apply pw_below_drewN | apply below_drew1) | exact HB.out)⟩
                                  · rw [if_neg c39] at H
                                    have c39b0 : (x54_2 == 0) = false := beq_eq_false_iff_ne.mpr c39
                                    have c39b1 : (x54_2 != 0) = true := bne_iff_ne.mpr c39
                                    obtain ⟨ji40, hji40⟩ : ∃ j_ : Int, (wrap64 ((x8_2.length : Int) - 1)) = j_ := ⟨_, rfl⟩
                                    replace H : (if 0 ≤ (ji40) then (if (ji40) < (x8_2.length : Int) then (if 1 ≤ ((rdOf ByteArray.empty x52_2 x54_2).size : Int) then ((some ((rdOf ByteArray.empty x52_2 x54_2).extract 1 (rdOf ByteArray.empty x52_2 x54_2).size : ByteArray)).bind fun y143 => (if (rdOf ByteArray.empty x8_2 (ji40)).size + y143.size ≤ 9223372036854775807 then (calepinref02_Unfold.l1 kj32 (x8_2.set ((ji40) : Int).toNat ((rdOf ByteArray.empty x8_2 (ji40)) ++ y143)) x52_2 (x4_1.length : Int) (wrap64 (x54_2 + 1))) else (none))) else (none)) else (none)) else (none)) = some (r1, r2) := by first | (rw [hji40] at H; exact H) | (simp only [hji40] at H ⊢; exact H)
                                    have hji40w : (IntKind.i64.wrap ((x8_2.length : Int) - 1)) = ji40 := (i64_w _).trans hji40
                                    by_cases c41 : 0 ≤ (ji40)
                                    · rw [if_pos c41] at H
                                      have c41b0 : decide (0 ≤ (ji40)) = true := decide_eq_true c41
                                      clear c41
                                      by_cases c42 : (ji40) < (x8_2.length : Int)
                                      · rw [if_pos c42] at H
                                        have c42b0 : decide ((ji40) < (x8_2.length : Int)) = true := decide_eq_true c42
                                        (try (have c42b0h := c42b0; simp only [hl52_2] at c42b0h))
                                        clear c42
                                        by_cases c43 : 1 ≤ ((rdOf ByteArray.empty x52_2 x54_2).size : Int)
                                        · rw [if_pos c43] at H
                                          have c43b0 := eq_true c43
                                          have c43b1 : decide (1 ≤ ((rdOf ByteArray.empty x52_2 x54_2).size : Int)) = true := decide_eq_true c43
                                          clear c43
                                          obtain ⟨y143, hy143⟩ : ∃ y_ : ByteArray, y_ = ((rdOf ByteArray.empty x52_2 x54_2).extract 1 (rdOf ByteArray.empty x52_2 x54_2).size) := ⟨_, rfl⟩
                                          replace H : (if (rdOf ByteArray.empty x8_2 (ji40)).size + y143.size ≤ 9223372036854775807 then (calepinref02_Unfold.l1 kj32 (x8_2.set ((ji40) : Int).toNat ((rdOf ByteArray.empty x8_2 (ji40)) ++ y143)) x52_2 (x4_1.length : Int) (wrap64 (x54_2 + 1))) else (none)) = some (r1, r2) := by first | (rw [hy143]; with_reducible exact H) | (have H2_ := (Option.bind_some _ _).symm.trans H; rw [hy143]; with_reducible exact H2_) | (have H2_ := (Option.bind_some _ _).symm.trans H; with_reducible exact H2_) | with_reducible exact H | (rw [hy143]; exact H) | exact H
                                          have Ny143 := Aside0.mk hy143
                                          clear hy143
                                          have sy143 := Ny143.out.symm
                                          by_cases c44 : (rdOf ByteArray.empty x8_2 (ji40)).size + y143.size ≤ 9223372036854775807
                                          · rw [if_pos c44] at H
                                            have c44b0 := eq_true c44
                                            have c44b1 : decide ((rdOf ByteArray.empty x8_2 (ji40)).size + y143.size ≤ 9223372036854775807) = true := decide_eq_true c44
                                            try have c44b2 : (9223372036854775807 < (rdOf ByteArray.empty x8_2 (ji40)).size + y143.size) = False := eq_false (Nat.not_lt.2 c44)
                                            obtain ⟨y144, hy144⟩ : ∃ y_ : List ByteArray, y_ = (x8_2.set ((ji40) : Int).toNat ((rdOf ByteArray.empty x8_2 (ji40)) ++ y143)) := ⟨_, rfl⟩
                                            replace H : (calepinref02_Unfold.l1 kj32 y144 x52_2 (x4_1.length : Int) (wrap64 (x54_2 + 1))) = some (r1, r2) := by first | (rw [hy144]; with_reducible exact H) | (have H2_ := (Option.bind_some _ _).symm.trans H; rw [hy144]; with_reducible exact H2_) | (have H2_ := (Option.bind_some _ _).symm.trans H; with_reducible exact H2_) | with_reducible exact H | (rw [hy144]; exact H) | exact H
                                            have Ny144 := Aside0.mk hy144
                                            clear hy144
                                            have H' := Aside0.mk H
                                            clear H
                                            try go_wp2
                                            have n0_ := Aside0.mk (Kd.R_drew HO_8.out)
                                            have n1_ := Aside0.mk (Kd.R_drew HO_52.out)
                                            have n2_ := Aside0.mk (below_drew1 HB.out)
                                            clear HO_8
                                            clear HO_52
                                            clear HB
                                            have HO_8 := n0_
                                            have HO_52 := n1_
                                            have HB := n2_
                                            clear n0_ n1_ n2_
                                            obtain ⟨Ao47, co47, eo47⟩ := Kd.R_slice HO_8.out
                                            (first | subst eo47 | (injection eo47 with f1_ f2_ f3_; have f4_ := f1_.symm; have f5_ := f3_.symm; clear f1_ f2_ f3_; subst f4_; subst f5_))
                                            have p142 : 0 ≤ ((ji40) : Int) := of_decide_eq_true (by first | (with_reducible assumption) | assumption)
                                            have q142 : (ji40) < (x8_2.length : Int) := of_decide_eq_true (by first | (with_reducible assumption) | assumption)
                                            obtain ⟨ad142, e142, hx142_0⟩ := Kd.at_string (Kd.R_reads' HO_8.out).2.2 (ji40) p142 q142
                                            cases e142
                                            replace p142 := eq_true p142
                                            replace q142 := eq_true q142
                                            have p45 : 0 ≤ ((ji40) : Int) := of_decide_eq_true (by first | (with_reducible assumption) | assumption)
                                            have q45 : ((ji40) : Int) < ((x8_2.length : Int) : Int) := of_decide_eq_true (by first | (with_reducible assumption) | assumption)
                                            obtain ⟨go45, co45, eo45, gb45, gl45, cl45, HG45⟩ := Kd.R_form HO_8.out (by omega)
                                            (first | cases eo45 | (injection eo45 with ea_ en_ ec_; (first | subst ea_ | (injection ea_ with ea_; subst ea_)); subst ec_; clear en_))
                                            have GB45 := Aside0.mk gb45
                                            have GG45 := Aside0.mk HG45
                                            clear gb45 gl45 HG45
                                            (first | simp only [add_plain] at hx142_0 | skip)
                                            obtain ⟨hx45_0, hf45_0⟩ := Kd.R_celln (⟨#[]⟩ : ByteArray) HO_8.out ((ji40) : Int) p45 q45
                                            replace p45 := eq_true p45
                                            replace q45 := eq_true q45
                                            have HP48 := Kd.R_putn HO_8.out ((ji40) : Int) ((rdOf ByteArray.empty x8_2 (ji40)) ++ y143)
                                            rw [← Ny144.out] at HP48
                                            have HQ48 := Aside0.mk HP48
                                            clear HP48
                                            refine start_ (n := 15) (S := fun w' => w'.cell? ⟨go45, ((ji40)).toNat, none⟩ = some (.string (rdOf ByteArray.empty x8_2 (ji40)))) (ds := [14]) #[false, false, false, false, false, false, false, false, false, false, false, false, false, false, false] (by kernel_rfl) rfl rfl (hx142_0) (fun hHeld => ?_); refine with_tabW calepinref02_Unfold.tab28 calepinref02_Unfold.bits28 (fun HT_ HW_ => ?_)
                                            generalize wc.drew = w46 at HO_8 HO_52 HB GG45 HQ48 hf45_0 hx142_0 hx45_0 hHeld ⊢
                                            refine pure_ (i := 0) (N := some 82) (v := ?_) (a' := ?_) #[true, false, false, false, false, false, false, false, false, false, false, false, false, false, false] rfl rfl (any_of HT_.out (by kernel_rfl)) (fun _ _ _ h => h) (Or.inl ⟨by rfl, ?_⟩) ?_ ?_
                                            rotate_left
                                            · intro w'
                                              go_simp
                                              with_reducible rfl
                                            rotate_left
                                            · simp only [Act.put, List.setIfInBounds_toArray, List.set_cons_zero, List.set_cons_succ, i64_w, i32_w]
                                              rfl
                                            refine pure_ (i := 1) (N := some 83) (v := ?_) (a' := ?_) #[true, true, false, false, false, false, false, false, false, false, false, false, false, false, false] rfl rfl (any_of HT_.out (by kernel_rfl)) (fun _ _ _ h => h) (Or.inl ⟨by rfl, ?_⟩) ?_ ?_
                                            rotate_left
                                            · intro w'
                                              go_simp
                                              with_reducible rfl
                                            rotate_left
                                            · simp only [Act.put, List.setIfInBounds_toArray, List.set_cons_zero, List.set_cons_succ, i64_w, i32_w]
                                              rfl
                                            refine pure_ (i := 2) (N := some 84) (v := ?_) (a' := ?_) #[true, true, true, false, false, false, false, false, false, false, false, false, false, false, false] rfl rfl (any_of HT_.out (by kernel_rfl)) (fun _ _ _ h => h) (Or.inl ⟨by rfl, ?_⟩) ?_ ?_
                                            rotate_left
                                            · intro w'
                                              go_simp
                                              with_reducible rfl
                                            rotate_left
                                            · simp only [Act.put, List.setIfInBounds_toArray, List.set_cons_zero, List.set_cons_succ, i64_w, i32_w]
                                              rfl
                                            refine pure_ (i := 3) (N := some 85) (v := ?_) (a' := ?_) #[true, true, true, true, false, false, false, false, false, false, false, false, false, false, false] rfl rfl (any_of HT_.out (by kernel_rfl)) (fun _ _ _ h => h) (Or.inl ⟨by rfl, ?_⟩) ?_ ?_
                                            rotate_left
                                            · intro w'
                                              go_simp
                                              with_reducible rfl
                                            rotate_left
                                            · simp only [Act.put, List.setIfInBounds_toArray, List.set_cons_zero, List.set_cons_succ, i64_w, i32_w]
                                              rfl
                                            refine pure_ (i := 4) (N := some 86) (v := ?_) (a' := ?_) #[true, true, true, true, true, false, false, false, false, false, false, false, false, false, false] rfl rfl (any_of HT_.out (by kernel_rfl)) (fun _ _ _ h => h) (Or.inl ⟨by rfl, ?_⟩) ?_ ?_
                                            rotate_left
                                            · intro w'
                                              go_simp
                                              with_reducible rfl
                                            rotate_left
                                            · simp only [Act.put, List.setIfInBounds_toArray, List.set_cons_zero, List.set_cons_succ, i64_w, i32_w]
                                              rfl
                                            refine pure_ (i := 5) (N := some 87) (v := ?_) (a' := ?_) #[true, true, true, true, true, true, false, false, false, false, false, false, false, false, false] rfl rfl (any_of HT_.out (by kernel_rfl)) (fun _ _ _ h => h) (Or.inl ⟨by rfl, ?_⟩) ?_ ?_
                                            rotate_left
                                            · intro w'
                                              go_simp
                                              with_reducible rfl
                                            rotate_left
                                            · simp only [Act.put, List.setIfInBounds_toArray, List.set_cons_zero, List.set_cons_succ, i64_w, i32_w]
                                              rfl
                                            refine pure_ (i := 6) (N := some 88) (v := ?_) (a' := ?_) #[true, true, true, true, true, true, true, false, false, false, false, false, false, false, false] rfl rfl (any_of HT_.out (by kernel_rfl)) (fun _ _ _ h => h) (Or.inl ⟨by rfl, ?_⟩) ?_ ?_
                                            rotate_left
                                            · intro w'
                                              go_simp
                                              with_reducible rfl
                                            rotate_left
                                            · simp only [Act.put, List.setIfInBounds_toArray, List.set_cons_zero, List.set_cons_succ, i64_w, i32_w]
                                              rfl
                                            refine pure_ (i := 7) (N := some 89) (v := ?_) (a' := ?_) #[true, true, true, true, true, true, true, true, false, false, false, false, false, false, false] rfl rfl (any_of HT_.out (by kernel_rfl)) (fun _ _ _ h => h) (Or.inl ⟨by rfl, ?_⟩) ?_ ?_
                                            rotate_left
                                            · intro w'
                                              go_simp
                                              with_reducible rfl
                                            rotate_left
                                            · simp only [Act.put, List.setIfInBounds_toArray, List.set_cons_zero, List.set_cons_succ, i64_w, i32_w]
                                              rfl
                                            refine pure_ (i := 8) (N := some 90) (v := ?_) (a' := ?_) #[true, true, true, true, true, true, true, true, true, false, false, false, false, false, false] rfl rfl (any_of HT_.out (by kernel_rfl)) (fun _ _ _ h => h) (Or.inl ⟨by rfl, ?_⟩) ?_ ?_
                                            rotate_left
                                            · intro w'
                                              go_simp
                                              with_reducible rfl
                                            rotate_left
                                            · simp only [Act.put, List.setIfInBounds_toArray, List.set_cons_zero, List.set_cons_succ, i64_w, i32_w]
                                              rfl
                                            refine pure_ (i := 10) (N := some 92) (v := ?_) (a' := ?_) #[true, true, true, true, true, true, true, true, true, false, true, false, false, false, false] rfl rfl (any_of HT_.out (by kernel_rfl)) (fun _ _ _ h => h) (Or.inl ⟨by rfl, ?_⟩) ?_ ?_
                                            rotate_left
                                            · intro w'
                                              go_simp
                                              with_reducible rfl
                                            rotate_left
                                            · simp only [Act.put, List.setIfInBounds_toArray, List.set_cons_zero, List.set_cons_succ, i64_w, i32_w]
                                              rfl
                                            refine pure_ (i := 11) (N := some 93) (v := ?_) (a' := ?_) #[true, true, true, true, true, true, true, true, true, false, true, true, false, false, false] rfl rfl (any_of HT_.out (by kernel_rfl)) (fun _ _ _ h => h) (Or.inl ⟨by rfl, ?_⟩) ?_ ?_
                                            rotate_left
                                            · intro w'
                                              go_simp
                                              with_reducible rfl
                                            rotate_left
                                            · simp only [Act.put, List.setIfInBounds_toArray, List.set_cons_zero, List.set_cons_succ, i64_w, i32_w]
                                              rfl
                                            refine take_ (i := 9) (N := some 91) (v := ?_) (a' := ?_) #[true, true, true, true, true, true, true, true, true, true, true, true, false, false, false] rfl rfl (take_ofW HT_.out HW_.out (by kernel_rfl)) (fun _ _ _ h => h) (Or.inl ⟨by rfl, ?_⟩) hHeld ?_ ?_
                                            rotate_left
                                            · intro w' s0
                                              go_simp
                                              with_reducible rfl
                                            rotate_left
                                            · simp only [Act.put, List.setIfInBounds_toArray, List.set_cons_zero, List.set_cons_succ, i64_w, i32_w]
                                              rfl
                                            refine pure_ (i := 12) (N := some 94) (v := ?_) (a' := ?_) #[true, true, true, true, true, true, true, true, true, true, true, true, true, false, false] rfl rfl (any_of HT_.out (by kernel_rfl)) (fun _ _ _ h => h) (Or.inl ⟨by rfl, ?_⟩) ?_ ?_
                                            rotate_left
                                            · intro w'
                                              go_simp
                                              with_reducible rfl
                                            rotate_left
                                            · simp only [Act.put, List.setIfInBounds_toArray, List.set_cons_zero, List.set_cons_succ, i64_w, i32_w]
                                              rfl
                                            refine pure_ (i := 13) (N := some 95) (v := ?_) (a' := ?_) #[true, true, true, true, true, true, true, true, true, true, true, true, true, true, false] rfl rfl (any_of HT_.out (by kernel_rfl)) (fun _ _ _ h => h) (Or.inl ⟨by rfl, ?_⟩) ?_ ?_
                                            rotate_left
                                            · intro w'
                                              go_simp
                                              with_reducible rfl
                                            rotate_left
                                            · simp only [Act.put, List.setIfInBounds_toArray, List.set_cons_zero, List.set_cons_succ, i64_w, i32_w]
                                              rfl
                                            refine last_ (i := 14) (N := none) #[true, true, true, true, true, true, true, true, true, true, true, true, true, true, true] rfl rfl (one_of HT_.out (by kernel_rfl)) (by decide) (fun K hK => ?_)
                                            refine skip_ (w1 := ?_) (by rfl) rfl ?_ ?_
                                            rotate_left
                                            · go_simp
                                              rfl
                                            refine hK.out _ _ ?_
                                            clear hK K
                                            refine done_ (done_of HT_.out (by kernel_rfl)) ?_
                                            try go_wp2
                                            (try simp only [← hl52_2])
                                            go_roundg kj32
                                            case measure => have := HK1.out; have := HK2.out; have := HK3.out; have := HJ32.out; omega
                                            case rel => exact ⟨(y144), (x52_2), (wrap64 (x54_2 + 1)), (by first | rfl | (simp; done) | (simp [*]; done)), H', ⟨by have := HK1.out; have := HK2.out; have := HK3.out; have := HJ32.out; omega⟩, ⟨by (try simp only [hl52_2]); (with_reducible repeat (first | apply Kd.R_alloc | apply Kd.R_drewN | apply Kd.R_drew)); exact HQ48.out⟩, ⟨by (try simp only [hl52_2]); (with_reducible repeat (first | apply Kd.R_alloc | apply Kd.R_drewN | apply Kd.R_drew)); exact Kd.R_mono (Kd.R_far (p := ⟨go45, ((ji40) : Int).toNat, none⟩) (Kd.R_mono HO_52.out (fun k_ hk => (⟨hk, fun e_ => hk (by rw [e_]; rfl)⟩ : _ ∧ k_ ≠ go45))) (fun _ hk => hk.2) (.string ((rdOf ByteArray.empty x8_2 (ji40)) ++ y143))) (fun _ hk => hk.1)⟩, ⟨by repeat (first | (with_reducible first | exact HB.out | apply below_alloc | apply pw_below_drewN | apply below_drew1 | refine below_set ?_ GB45.out) | exact HB.out)⟩⟩
                                          · rw [if_neg c44] at H
                                            exact absurd H (by simp)
                                        · rw [if_neg c43] at H
                                          exact absurd H (by simp)
                                      · rw [if_neg c42] at H
                                        exact absurd H (by simp)
                                    · rw [if_neg c41] at H
                                      exact absurd H (by simp)
                                · replace c38 := Bool.eq_false_iff.mpr c38
                                  subst c38
                                  have H1 : (if x8_2.length < 8796093022208 then (calepinref02_Unfold.l1 kj32 (x8_2 ++ [(rdOf ByteArray.empty x52_2 x54_2)]) x52_2 (x4_1.length : Int) (wrap64 (x54_2 + 1))) else (none)) = some (r1, r2) := by rw [if_neg (show ¬ (false = true) by decide)] at H; exact H
                                  clear H
                                  have H := H1
                                  clear H1
                                  by_cases c49 : x8_2.length < 8796093022208
                                  · rw [if_pos c49] at H
                                    have LMc49 := Aside0.mk c49
                                    clear c49
                                    obtain ⟨y145, hy145⟩ : ∃ y_ : List ByteArray, y_ = (x8_2 ++ [(rdOf ByteArray.empty x52_2 x54_2)]) := ⟨_, rfl⟩
                                    replace H : (calepinref02_Unfold.l1 kj32 y145 x52_2 (x4_1.length : Int) (wrap64 (x54_2 + 1))) = some (r1, r2) := by first | (rw [hy145]; with_reducible exact H) | (have H2_ := (Option.bind_some _ _).symm.trans H; rw [hy145]; with_reducible exact H2_) | (have H2_ := (Option.bind_some _ _).symm.trans H; with_reducible exact H2_) | with_reducible exact H | (rw [hy145]; exact H) | exact H
                                    have Ny145 := Aside0.mk hy145
                                    clear hy145
                                    have H' := Aside0.mk H
                                    clear H
                                    go_wp2_with (first | ((with_reducible refine gate_builtin (b := .append) (xs := #[.tmp 96, .tmp 98]) rfl ?_); (try (refine gate_guard (by rfl) ?_; dsimp only)); at_builtin; refine Kd.R_append Kd.string (w0 := w) w.heap.size rfl (.tmp 96) (.tmp 98) 23 9 (.string ⟨#[]⟩) 16 rfl Tryd.underlying23 info9 rfl (by decide) (by omega) u8 x8_2 (rdOf ByteArray.empty x52_2 x54_2) [.string (rdOf ByteArray.empty x52_2 x54_2)] (fun k_ => some k_ ≠ (.slice (some ad141) x52_2.length co24 : Value).ownBlock) (fun _ => False) rfl rfl ?aP (fun _ hk => hk.elim) ?aF ?aO ?aB ?aS ?aL ?_; (case aP => exact rfl); (case aB => exact (by repeat (first | (with_reducible first | exact HB.out | apply below_alloc | apply pw_below_drewN | apply below_drew1) | exact HB.out))); (case aF => exact (fun k_ hk => Kd.fresh' (Kd.R_lt (by (with_reducible repeat (first | apply Kd.R_alloc | apply Kd.R_drewN | apply Kd.R_drew)); exact HO_52.out)) k_ hk)); (case aO => exact (by (with_reducible repeat (first | apply Kd.R_alloc | apply Kd.R_drewN | apply Kd.R_drew)); exact HO_8.out)); (case aS => exact (below_size (by repeat (first | (with_reducible first | exact HB.out | apply below_alloc | apply pw_below_drewN | apply below_drew1) | exact HB.out)))); (case aL => have := LMc49.out; omega); intro v146 w50 ho hb hg hat; rw [← Ny145.out] at ho; have n0_ := Aside0.mk (Kd.R_after (ok := (fun _ => True)) (by (with_reducible repeat (first | apply Kd.R_alloc | apply Kd.R_drewN | apply Kd.R_drew)); exact Kd.R_mono HO_52.out (fun _ hk => ⟨trivial, hk⟩)) hg hat); have n1_ := Aside0.mk (hb); have n2_ := Aside0.mk (ho); clear HO_52; clear HB; clear HO_8; have HO_52 := n0_; have HB := n1_; have HO147 := n2_; clear n0_ n1_ n2_; clear ho hb hg hat))
                                    (try simp only [← hl52_2])
                                    go_roundg kj32
                                    case measure => have := HK1.out; have := HK2.out; have := HK3.out; have := HJ32.out; omega
                                    case rel => exact ⟨(y145), (x52_2), (wrap64 (x54_2 + 1)), (by first | rfl | (simp; done) | (simp [*]; done)), H', ⟨by have := HK1.out; have := HK2.out; have := HK3.out; have := HJ32.out; omega⟩, ⟨by (try simp only [hl52_2]); (with_reducible repeat (first | apply Kd.R_alloc | apply Kd.R_drewN | apply Kd.R_drew)); exact HO147.out⟩, ⟨by (try simp only [hl52_2]); (with_reducible repeat (first | apply Kd.R_alloc | apply Kd.R_drewN | apply Kd.R_drew)); exact Kd.R_mono HO_52.out (fun _ hk => hk.2)⟩, ⟨by repeat (first | (with_reducible first | exact HB.out | apply below_alloc | apply pw_below_drewN | apply below_drew1) | exact HB.out)⟩⟩
                                  · rw [if_neg c49] at H
                                    exact absurd H (by simp)
                  · rw [if_neg c27] at H
                    exact absurd H (by simp)
                · rw [if_neg c26] at H
                  exact absurd H (by simp)
              · rw [if_neg c25] at H
                have c25b0 : decide (x54_2 < (x4_1.length : Int)) = false := decide_eq_false c25
                (try (have c25b0h := c25b0; simp only [hl52_2] at c25b0h))
                clear c25
                simp only [Option.some.injEq, Prod.mk.injEq] at H
                obtain ⟨rfl, rfl⟩ := H
                go_wp2
                go_ret2
                exact ⟨_, by first | rfl | (simp [errW_none, errW_some] <;> rfl) | (simp [*, errW_none, errW_some] <;> rfl), by (with_reducible repeat (first | apply Kd.R_alloc | apply Kd.R_drewN | apply Kd.R_drew)); exact Kd.R_mono HO_8.out (fun _ hk => trivial), by repeat (first | (with_reducible first | exact HB.out | apply below_alloc | apply pw_below_drewN | apply below_drew1) | exact HB.out)⟩

end Go.Proofs.YtpjidedgifjgeaaDoor.Pf
