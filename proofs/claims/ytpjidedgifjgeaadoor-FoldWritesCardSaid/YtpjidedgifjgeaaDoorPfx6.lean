-- Written by a program of this session (wip/extprint.py) over the kit's print. Not trusted: Lean checks it.
import Derived.Test.YtpjidedgifjgeaaDoorPfx0
import Derived.Test.YtpjidedgifjgeaaDoorPfx1
import Derived.Test.YtpjidedgifjgeaaDoorPfx3
import Derived.Test.YtpjidedgifjgeaaDoorPfx5
namespace Go.Proofs.YtpjidedgifjgeaaDoor.Pf
open Go.RowKit Go.Proofs.YtpjidedgifjgeaaDoorW.PrintWords Go.Proofs.YtpjidedgifjgeaaDoorW.PrintLast Go.Proofs.YtpjidedgifjgeaaDoorW.PrintMore
attribute [local go_sem] max2_int min2_int max_two min_two max_three min_three max_four min_four   -- for this text's walks alone
set_option linter.unusedVariables false
set_option linter.unusedSimpArgs false

/-! ### calepinlaw02_FoldWrites: function 5 -/
mutual
def calepinlaw02_FoldWrites.l0 : Nat → List ByteArray → ByteArray → Bool → List ByteArray → Int → Int → Option (Bool)
  | 0, _, _, _, _, _, _ => none
  | k + 1, x0, x3, x4, x13, x14, x15 => if x15 < x14 then (if 0 ≤ x15 then (if x15 < (x13.length : Int) then (if x15 ≥ 20 then (calepinlaw02_FoldWrites.j1 k x0 x3 x4 (rdOf ByteArray.empty x13 x15) x13 x14 x15 true) else (calepinlaw02_FoldWrites.j1 k x0 x3 x4 (rdOf ByteArray.empty x13 x15) x13 x14 x15 (decide (((rdOf ByteArray.empty x13 x15).size : Int) > 3000)))) else (none)) else (none)) else ((fold_Fold.f x0).bind fun t184 => (if t184.toList = x3.toList then (if x4 = true then ((fold_Unfold.f k t184).bind fun bt185 => (if bt185.2 = 0 then (calepinlaw02_FoldWrites.j3 k x0 bt185.1 ((bt185.1.length : Int) != (x0.length : Int))) else (calepinlaw02_FoldWrites.j3 k x0 bt185.1 true))) else (some true)) else (some false)))
def calepinlaw02_FoldWrites.j1 : Nat → List ByteArray → ByteArray → Bool → ByteArray → List ByteArray → Int → Int → Bool → Option (Bool)
  | 0, _, _, _, _, _, _, _, _ => none
  | k + 1, x0, x3, x4, x6, x13, x14, x15, x26 => if x26 = true then (some true) else ((calepinref02_Fold.f k x6).bind fun t180 => (if x3.size + t180.size ≤ 9223372036854775807 then (if x4 = true then ((calepinref02_Good.f k x6).bind fun t181 => (calepinlaw02_FoldWrites.j2 k x0 (x3 ++ t180) t181 x6 x13 x14 x15)) else (calepinlaw02_FoldWrites.j2 k x0 (x3 ++ t180) false x6 x13 x14 x15)) else (none)))
def calepinlaw02_FoldWrites.j2 : Nat → List ByteArray → ByteArray → Bool → ByteArray → List ByteArray → Int → Int → Option (Bool)
  | 0, _, _, _, _, _, _, _ => none
  | k + 1, x0, x3, x4, x6, x13, x14, x15 => (fold_Good.f x6).bind fun t182 => ((calepinref02_Good.f k x6).bind fun t183 => (if (t182 != t183) = true then (some false) else (calepinlaw02_FoldWrites.l0 k x0 x3 x4 x13 x14 (wrap64 (x15 + 1)))))
def calepinlaw02_FoldWrites.j3 : Nat → List ByteArray → List ByteArray → Bool → Option (Bool)
  | 0, _, _, _ => none
  | k + 1, x0, x8, x62 => if x62 = true then (some false) else (calepinlaw02_FoldWrites.l1 k x0 x8 (x8.length : Int) 0)
def calepinlaw02_FoldWrites.l1 : Nat → List ByteArray → List ByteArray → Int → Int → Option (Bool)
  | 0, _, _, _, _ => none
  | k + 1, x0, x8, x64, x65 => if x65 < x64 then (if 0 ≤ x65 then (if x65 < (x8.length : Int) then (if x65 < (x0.length : Int) then (if (rdOf ByteArray.empty x8 x65).toList = (rdOf ByteArray.empty x0 x65).toList then (calepinlaw02_FoldWrites.l1 k x0 x8 x64 (wrap64 (x65 + 1))) else (some false)) else (none)) else (none)) else (none)) else (some true)
end
def calepinlaw02_FoldWrites.f (k : Nat) (l0 : List ByteArray) : Option (Bool) := (calepinlaw02_first.f k).bind fun t178 => (if t178 = true then (calepinlaw02_FoldWrites.l0 k l0 (⟨#[]⟩ : ByteArray) true l0 (l0.length : Int) 0) else (some false))
theorem calepinlaw02_FoldWrites.mono_l : ∀ k, (∀ y0 y1 y2 y3 y4 y5, LeO (calepinlaw02_FoldWrites.l0 k y0 y1 y2 y3 y4 y5) (calepinlaw02_FoldWrites.l0 (k + 1) y0 y1 y2 y3 y4 y5)) ∧ (∀ y0 y1 y2 y3 y4 y5 y6 y7, LeO (calepinlaw02_FoldWrites.j1 k y0 y1 y2 y3 y4 y5 y6 y7) (calepinlaw02_FoldWrites.j1 (k + 1) y0 y1 y2 y3 y4 y5 y6 y7)) ∧ (∀ y0 y1 y2 y3 y4 y5 y6, LeO (calepinlaw02_FoldWrites.j2 k y0 y1 y2 y3 y4 y5 y6) (calepinlaw02_FoldWrites.j2 (k + 1) y0 y1 y2 y3 y4 y5 y6)) ∧ (∀ y0 y1 y2, LeO (calepinlaw02_FoldWrites.j3 k y0 y1 y2) (calepinlaw02_FoldWrites.j3 (k + 1) y0 y1 y2)) ∧ (∀ y0 y1 y2 y3, LeO (calepinlaw02_FoldWrites.l1 k y0 y1 y2 y3) (calepinlaw02_FoldWrites.l1 (k + 1) y0 y1 y2 y3))
  | 0 => ⟨fun _ _ _ _ _ _ r h => by simp [calepinlaw02_FoldWrites.l0] at h, fun _ _ _ _ _ _ _ _ r h => by simp [calepinlaw02_FoldWrites.j1] at h, fun _ _ _ _ _ _ _ r h => by simp [calepinlaw02_FoldWrites.j2] at h, fun _ _ _ r h => by simp [calepinlaw02_FoldWrites.j3] at h, fun _ _ _ _ r h => by simp [calepinlaw02_FoldWrites.l1] at h⟩
  | k + 1 => by
    obtain ⟨ih0, ih1, ih2, ih3, ih4⟩ := calepinlaw02_FoldWrites.mono_l k
    refine ⟨?_, ?_, ?_, ?_, ?_⟩
    · intro y0 y1 y2 y3 y4 y5
      unfold calepinlaw02_FoldWrites.l0
      repeat' first
      | (with_reducible exact ih0 _ _ _ _ _ _)
      | (with_reducible exact ih1 _ _ _ _ _ _ _ _)
      | (with_reducible exact ih2 _ _ _ _ _ _ _)
      | (with_reducible exact ih3 _ _ _)
      | (with_reducible exact ih4 _ _ _ _)
      | (with_reducible exact calepinlaw02_first.mono _)
      | (with_reducible exact calepinref02_Fold.mono _ _)
      | (with_reducible exact calepinref02_Good.mono _ _)
      | (with_reducible exact fold_Unfold.mono _ _)
      | (with_reducible exact LeO.refl _)
      | (with_reducible exact LeO.none _)
      | (with_reducible refine LeO.ite ?_ ?_)
      | (with_reducible refine LeO.bind ?_ (fun _ => ?_))
      | exact ih0 _ _ _ _ _ _
      | exact ih1 _ _ _ _ _ _ _ _
      | exact ih2 _ _ _ _ _ _ _
      | exact ih3 _ _ _
      | exact ih4 _ _ _ _
      | exact calepinlaw02_first.mono _
      | exact calepinref02_Fold.mono _ _
      | exact calepinref02_Good.mono _ _
      | exact fold_Unfold.mono _ _
      | exact LeO.none _
      | refine LeO.ite ?_ ?_
      | refine LeO.bind ?_ (fun _ => ?_)
    · intro y0 y1 y2 y3 y4 y5 y6 y7
      unfold calepinlaw02_FoldWrites.j1
      repeat' first
      | (with_reducible exact ih0 _ _ _ _ _ _)
      | (with_reducible exact ih1 _ _ _ _ _ _ _ _)
      | (with_reducible exact ih2 _ _ _ _ _ _ _)
      | (with_reducible exact ih3 _ _ _)
      | (with_reducible exact ih4 _ _ _ _)
      | (with_reducible exact calepinlaw02_first.mono _)
      | (with_reducible exact calepinref02_Fold.mono _ _)
      | (with_reducible exact calepinref02_Good.mono _ _)
      | (with_reducible exact fold_Unfold.mono _ _)
      | (with_reducible exact LeO.refl _)
      | (with_reducible exact LeO.none _)
      | (with_reducible refine LeO.ite ?_ ?_)
      | (with_reducible refine LeO.bind ?_ (fun _ => ?_))
      | exact ih0 _ _ _ _ _ _
      | exact ih1 _ _ _ _ _ _ _ _
      | exact ih2 _ _ _ _ _ _ _
      | exact ih3 _ _ _
      | exact ih4 _ _ _ _
      | exact calepinlaw02_first.mono _
      | exact calepinref02_Fold.mono _ _
      | exact calepinref02_Good.mono _ _
      | exact fold_Unfold.mono _ _
      | exact LeO.none _
      | refine LeO.ite ?_ ?_
      | refine LeO.bind ?_ (fun _ => ?_)
    · intro y0 y1 y2 y3 y4 y5 y6
      unfold calepinlaw02_FoldWrites.j2
      repeat' first
      | (with_reducible exact ih0 _ _ _ _ _ _)
      | (with_reducible exact ih1 _ _ _ _ _ _ _ _)
      | (with_reducible exact ih2 _ _ _ _ _ _ _)
      | (with_reducible exact ih3 _ _ _)
      | (with_reducible exact ih4 _ _ _ _)
      | (with_reducible exact calepinlaw02_first.mono _)
      | (with_reducible exact calepinref02_Fold.mono _ _)
      | (with_reducible exact calepinref02_Good.mono _ _)
      | (with_reducible exact fold_Unfold.mono _ _)
      | (with_reducible exact LeO.refl _)
      | (with_reducible exact LeO.none _)
      | (with_reducible refine LeO.ite ?_ ?_)
      | (with_reducible refine LeO.bind ?_ (fun _ => ?_))
      | exact ih0 _ _ _ _ _ _
      | exact ih1 _ _ _ _ _ _ _ _
      | exact ih2 _ _ _ _ _ _ _
      | exact ih3 _ _ _
      | exact ih4 _ _ _ _
      | exact calepinlaw02_first.mono _
      | exact calepinref02_Fold.mono _ _
      | exact calepinref02_Good.mono _ _
      | exact fold_Unfold.mono _ _
      | exact LeO.none _
      | refine LeO.ite ?_ ?_
      | refine LeO.bind ?_ (fun _ => ?_)
    · intro y0 y1 y2
      unfold calepinlaw02_FoldWrites.j3
      repeat' first
      | (with_reducible exact ih0 _ _ _ _ _ _)
      | (with_reducible exact ih1 _ _ _ _ _ _ _ _)
      | (with_reducible exact ih2 _ _ _ _ _ _ _)
      | (with_reducible exact ih3 _ _ _)
      | (with_reducible exact ih4 _ _ _ _)
      | (with_reducible exact calepinlaw02_first.mono _)
      | (with_reducible exact calepinref02_Fold.mono _ _)
      | (with_reducible exact calepinref02_Good.mono _ _)
      | (with_reducible exact fold_Unfold.mono _ _)
      | (with_reducible exact LeO.refl _)
      | (with_reducible exact LeO.none _)
      | (with_reducible refine LeO.ite ?_ ?_)
      | (with_reducible refine LeO.bind ?_ (fun _ => ?_))
      | exact ih0 _ _ _ _ _ _
      | exact ih1 _ _ _ _ _ _ _ _
      | exact ih2 _ _ _ _ _ _ _
      | exact ih3 _ _ _
      | exact ih4 _ _ _ _
      | exact calepinlaw02_first.mono _
      | exact calepinref02_Fold.mono _ _
      | exact calepinref02_Good.mono _ _
      | exact fold_Unfold.mono _ _
      | exact LeO.none _
      | refine LeO.ite ?_ ?_
      | refine LeO.bind ?_ (fun _ => ?_)
    · intro y0 y1 y2 y3
      unfold calepinlaw02_FoldWrites.l1
      repeat' first
      | (with_reducible exact ih0 _ _ _ _ _ _)
      | (with_reducible exact ih1 _ _ _ _ _ _ _ _)
      | (with_reducible exact ih2 _ _ _ _ _ _ _)
      | (with_reducible exact ih3 _ _ _)
      | (with_reducible exact ih4 _ _ _ _)
      | (with_reducible exact calepinlaw02_first.mono _)
      | (with_reducible exact calepinref02_Fold.mono _ _)
      | (with_reducible exact calepinref02_Good.mono _ _)
      | (with_reducible exact fold_Unfold.mono _ _)
      | (with_reducible exact LeO.refl _)
      | (with_reducible exact LeO.none _)
      | (with_reducible refine LeO.ite ?_ ?_)
      | (with_reducible refine LeO.bind ?_ (fun _ => ?_))
      | exact ih0 _ _ _ _ _ _
      | exact ih1 _ _ _ _ _ _ _ _
      | exact ih2 _ _ _ _ _ _ _
      | exact ih3 _ _ _
      | exact ih4 _ _ _ _
      | exact calepinlaw02_first.mono _
      | exact calepinref02_Fold.mono _ _
      | exact calepinref02_Good.mono _ _
      | exact fold_Unfold.mono _ _
      | exact LeO.none _
      | refine LeO.ite ?_ ?_
      | refine LeO.bind ?_ (fun _ => ?_)
theorem calepinlaw02_FoldWrites.mono : ∀ a0 k, LeO (calepinlaw02_FoldWrites.f k a0) (calepinlaw02_FoldWrites.f (k + 1) a0) := by
  intro a0 k
  obtain ⟨ih0, ih1, ih2, ih3, ih4⟩ := calepinlaw02_FoldWrites.mono_l k
  unfold calepinlaw02_FoldWrites.f
  repeat' first
      | (with_reducible exact ih0 _ _ _ _ _ _)
      | (with_reducible exact ih1 _ _ _ _ _ _ _ _)
      | (with_reducible exact ih2 _ _ _ _ _ _ _)
      | (with_reducible exact ih3 _ _ _)
      | (with_reducible exact ih4 _ _ _ _)
      | (with_reducible exact calepinlaw02_first.mono _)
      | (with_reducible exact calepinref02_Fold.mono _ _)
      | (with_reducible exact calepinref02_Good.mono _ _)
      | (with_reducible exact fold_Unfold.mono _ _)
      | (with_reducible exact LeO.refl _)
      | (with_reducible exact LeO.none _)
      | (with_reducible refine LeO.ite ?_ ?_)
      | (with_reducible refine LeO.bind ?_ (fun _ => ?_))
      | exact ih0 _ _ _ _ _ _
      | exact ih1 _ _ _ _ _ _ _ _
      | exact ih2 _ _ _ _ _ _ _
      | exact ih3 _ _ _
      | exact ih4 _ _ _ _
      | exact calepinlaw02_first.mono _
      | exact calepinref02_Fold.mono _ _
      | exact calepinref02_Good.mono _ _
      | exact fold_Unfold.mono _ _
      | exact LeO.none _
      | refine LeO.ite ?_ ?_
      | refine LeO.bind ?_ (fun _ => ?_)
set_option maxHeartbeats 8000000 in
set_option maxRecDepth 100000 in
theorem calepinlaw02_FoldWrites.calls (k : Nat) (A0 : Option Addr) (c0 : Nat) (l0 : List ByteArray) (r : Bool) (w : World) (hr0 : Kd.C Kd.string w A0 l0.length l0) (hc0 : l0.length ≤ c0) (hE : Env w) (h : calepinlaw02_FoldWrites.f k l0 = some r) :
    Calls Tryd.prog 5 #[.slice A0 l0.length c0] w fun e w' => e = .returned (.bool r) ∧ Below w.heap.size w w' := by
  have HE := Aside0.mk hE
  clear hE
  have HR0 := Aside0.mk hr0
  have HC0 := Aside0.mk hc0
  clear hr0 hc0
  have HB := Aside0.mk (Below.refl w.heap.size w)
  have H : ((calepinlaw02_first.f k).bind fun t178 => (if t178 = true then (calepinlaw02_FoldWrites.l0 k l0 (⟨#[]⟩ : ByteArray) true l0 (l0.length : Int) 0) else (some false))) = some r := h
  clear h
  replace H := Option.bind_eq_some_iff.mp H
  obtain ⟨t178, A20, H⟩ := H
  replace H : (if t178 = true then (calepinlaw02_FoldWrites.l0 k l0 (⟨#[]⟩ : ByteArray) true l0 (l0.length : Int) 0) else (some false)) = some r := H
  have A2 := Aside0.mk A20
  clear A20
  by_cases c3 : t178 = true
  · subst c3
    have H1 : (calepinlaw02_FoldWrites.l0 k l0 (⟨#[]⟩ : ByteArray) true l0 (l0.length : Int) 0) = some r := by rw [if_pos rfl] at H; exact H
    clear H
    have H := H1
    clear H1
    have H' := Aside0.mk H
    clear H
    go_enter Tryd.func5, Tryd.ntmps5
    go_wp2_with (first | (go_at_call 8; (with_reducible refine (calepinlaw02_first.calls k  true _ (env_at HE.out (by repeat (first | (with_reducible first | exact HB.out | apply below_alloc | apply pw_below_drewN | apply below_drew1) | exact HB.out))) A2.out).mono ?_); rintro e w4 ⟨rfl, hb⟩; have n0_ := Aside0.mk (below_step (by repeat (first | (with_reducible first | exact HB.out | apply below_alloc | apply pw_below_drewN | apply below_drew1) | exact HB.out)) hb); clear HB; have HB := n0_; clear n0_; (try clear hb); (try clear hb2); (try clear hk); (try clear hi)))
    repeat (go_quiet (first | (go_at_call 8; (with_reducible refine (calepinlaw02_first.calls k  true _ (env_at HE.out (by repeat (first | (with_reducible first | exact HB.out | apply below_alloc | apply pw_below_drewN | apply below_drew1) | exact HB.out))) A2.out).mono ?_); rintro e w4 ⟨rfl, hb⟩; have n0_ := Aside0.mk (below_step (by repeat (first | (with_reducible first | exact HB.out | apply below_alloc | apply pw_below_drewN | apply below_drew1) | exact HB.out)) hb); clear HB; have HB := n0_; clear n0_; (try clear hb); (try clear hb2); (try clear hk); (try clear hi))); try go_wp2_with (first | (go_at_call 8; (with_reducible refine (calepinlaw02_first.calls k  true _ (env_at HE.out (by repeat (first | (with_reducible first | exact HB.out | apply below_alloc | apply pw_below_drewN | apply below_drew1) | exact HB.out))) A2.out).mono ?_); rintro e w4 ⟨rfl, hb⟩; have n0_ := Aside0.mk (below_step (by repeat (first | (with_reducible first | exact HB.out | apply below_alloc | apply pw_below_drewN | apply below_drew1) | exact HB.out)) hb); clear HB; have HB := n0_; clear n0_; (try clear hb); (try clear hb2); (try clear hk); (try clear hi))))
    go_loopg [3, 4, 15] k (fun kq v3 v4 v15 w' => ∃ (x3_1 : ByteArray) (x4_1 : Bool) (x15_1 : Int), v3 = .string x3_1 ∧ v4 = .bool x4_1 ∧ v15 = .int .i64 x15_1 ∧ Aside0 (calepinlaw02_FoldWrites.l0 kq l0 x3_1 x4_1 l0 (l0.length : Int) x15_1 = some r) ∧ Aside0 (kq ≤ k) ∧ Aside0 (Below w.heap.size w w'))
    case atStart => exact ⟨((⟨#[]⟩ : ByteArray)), (true), (0), (by first | rfl | (simp; done) | (simp [*]; done)), (by first | rfl | (simp; done) | (simp [*]; done)), (by first | rfl | (simp; done) | (simp [*]; done)), H', ⟨Nat.le_refl _⟩, ⟨by repeat (first | (with_reducible first | exact HB.out | apply below_alloc | apply pw_below_drewN | apply below_drew1) | exact HB.out)⟩⟩
    case round =>
      clear H'
      try clear p2
      try clear c3
      obtain ⟨x3_1, x4_1, x15_1, rfl, rfl, rfl, HA, HK1, HB⟩ := hrel
      cases gk with
      | zero => exact absurd HA.out (by simp [calepinlaw02_FoldWrites.l0])
      | succ k1 =>
        have H := HA.out
        clear HA
        simp only [calepinlaw02_FoldWrites.l0] at H
        by_cases c5 : x15_1 < (l0.length : Int)
        · rw [if_pos c5] at H
          have c5b0 : decide (x15_1 < (l0.length : Int)) = true := decide_eq_true c5
          clear c5
          by_cases c6 : 0 ≤ x15_1
          · rw [if_pos c6] at H
            have c6b0 : decide (0 ≤ x15_1) = true := decide_eq_true c6
            clear c6
            by_cases c7 : x15_1 < (l0.length : Int)
            · rw [if_pos c7] at H
              have c7b0 : decide (x15_1 < (l0.length : Int)) = true := decide_eq_true c7
              clear c7
              have HC8 := Aside0.mk H
              clear H
              have p179 : 0 ≤ (x15_1 : Int) := of_decide_eq_true (by first | (with_reducible assumption) | assumption)
              have q179 : x15_1 < (l0.length : Int) := of_decide_eq_true (by first | (with_reducible assumption) | assumption)
              obtain ⟨ad179, e179, hx179_0⟩ := Kd.at_string HR0.out x15_1 p179 q179
              cases e179
              replace hx179_0 := (HB.out.cell (World.block_lt_of_cell? w _ hx179_0)).trans hx179_0
              replace p179 := eq_true p179
              replace q179 := eq_true q179
              go_upto_region 7 with (fail)
              repeat (go_quiet (fail); go_upto_region 7 with (fail))
              go_cut [26] (fun v26 wc => ∃ (kq : Nat) (x26_7 : Bool), v26 = .bool x26_7 ∧ Aside0 (calepinlaw02_FoldWrites.j1 kq l0 x3_1 x4_1 (rdOf ByteArray.empty l0 x15_1) l0 (l0.length : Int) x15_1 x26_7 = some r) ∧ Aside0 (kq ≤ k1) ∧ Aside0 (Below w.heap.size w wc))
              case first =>
                have H := HC8.out
                clear HC8
                by_cases c9 : x15_1 ≥ 20
                · rw [if_pos c9] at H
                  have c9b0 : decide (20 ≤ x15_1) = true := decide_eq_true c9
                  clear c9
                  (first | rw [c9b0] | (simp only [i64_w, i32_w]; rw [c9b0]) | skip)
                  have H' := Aside0.mk H
                  clear H
                  go_wp2
                  repeat (go_quiet (fail); try go_wp2)
                  go_meet
                  case rel => exact ⟨_, (true), (by first | rfl | (simp; done) | (simp [*]; done)), H', ⟨by have := HK1.out; first | omega | exact Nat.le_refl _⟩, ⟨by repeat (first | (with_reducible first | exact HB.out | apply below_alloc | apply pw_below_drewN | apply below_drew1) | exact HB.out)⟩⟩
                · rw [if_neg c9] at H
                  have c9b0 : decide (20 ≤ x15_1) = false := decide_eq_false c9
                  clear c9
                  (first | rw [c9b0] | (simp only [i64_w, i32_w]; rw [c9b0]) | skip)
                  have H' := Aside0.mk H
                  clear H
                  go_wp2
                  repeat (go_quiet (fail); try go_wp2)
                  go_meet
                  case rel => exact ⟨_, (decide (((rdOf ByteArray.empty l0 x15_1).size : Int) > 3000)), (by first | rfl | (simp; done) | (simp [*]; done)), H', ⟨by have := HK1.out; first | omega | exact Nat.le_refl _⟩, ⟨by repeat (first | (with_reducible first | exact HB.out | apply below_alloc | apply pw_below_drewN | apply below_drew1) | exact HB.out)⟩⟩
              case rest =>
                clear HC8
                try clear p1
                try clear q1
                try clear hx1
                try clear p2
                try clear c3
                try clear c5
                try clear c5b0
                try clear c6
                try clear c6b0
                try clear c7
                try clear c7b0
                try clear c9
                try clear c9b0
                try clear hx179_0
                try clear p179
                try clear p2
                try clear q179
                obtain ⟨kq, x26_7, rfl, HA, HJ7, HB⟩ := hcut
                cases kq with
                | zero => exact absurd HA.out (by simp [calepinlaw02_FoldWrites.j1])
                | succ kj7 =>
                  have H := HA.out
                  clear HA
                  simp only [calepinlaw02_FoldWrites.j1] at H
                  by_cases c10 : x26_7 = true
                  · subst c10
                    have H1 : (some true) = some r := by rw [if_pos rfl] at H; exact H
                    clear H
                    have H := H1
                    clear H1
                    obtain rfl := Option.some.inj H
                    go_wp2
                    repeat (go_quiet (fail); try go_wp2)
                    go_ret
                    exact ⟨by first | rfl | (simp [errW_none, errW_some] <;> rfl) | (simp [*, errW_none, errW_some] <;> rfl), by repeat (first | (with_reducible first | exact HB.out | apply below_alloc | apply pw_below_drewN | apply below_drew1) | exact HB.out)⟩
                  · replace c10 := Bool.eq_false_iff.mpr c10
                    subst c10
                    have H1 : ((calepinref02_Fold.f kj7 (rdOf ByteArray.empty l0 x15_1)).bind fun t180 => (if x3_1.size + t180.size ≤ 9223372036854775807 then (if x4_1 = true then ((calepinref02_Good.f kj7 (rdOf ByteArray.empty l0 x15_1)).bind fun t181 => (calepinlaw02_FoldWrites.j2 kj7 l0 (x3_1 ++ t180) t181 (rdOf ByteArray.empty l0 x15_1) l0 (l0.length : Int) x15_1)) else (calepinlaw02_FoldWrites.j2 kj7 l0 (x3_1 ++ t180) false (rdOf ByteArray.empty l0 x15_1) l0 (l0.length : Int) x15_1)) else (none))) = some r := by rw [if_neg (show ¬ (false = true) by decide)] at H; exact H
                    clear H
                    have H := H1
                    clear H1
                    replace H := Option.bind_eq_some_iff.mp H
                    obtain ⟨t180, A110, H⟩ := H
                    replace H : (if x3_1.size + t180.size ≤ 9223372036854775807 then (if x4_1 = true then ((calepinref02_Good.f kj7 (rdOf ByteArray.empty l0 x15_1)).bind fun t181 => (calepinlaw02_FoldWrites.j2 kj7 l0 (x3_1 ++ t180) t181 (rdOf ByteArray.empty l0 x15_1) l0 (l0.length : Int) x15_1)) else (calepinlaw02_FoldWrites.j2 kj7 l0 (x3_1 ++ t180) false (rdOf ByteArray.empty l0 x15_1) l0 (l0.length : Int) x15_1)) else (none)) = some r := H
                    have A11 := Aside0.mk A110
                    clear A110
                    by_cases c12 : x3_1.size + t180.size ≤ 9223372036854775807
                    · rw [if_pos c12] at H
                      have c12b0 := eq_true c12
                      have c12b1 : decide (x3_1.size + t180.size ≤ 9223372036854775807) = true := decide_eq_true c12
                      try have c12b2 : (9223372036854775807 < x3_1.size + t180.size) = False := eq_false (Nat.not_lt.2 c12)
                      have HC13 := Aside0.mk H
                      clear H
                      go_upto_region 10 with (first | (go_at_call 14; (with_reducible refine (calepinref02_Fold.calls kj7 (rdOf ByteArray.empty l0 x15_1) t180 _ A11.out).mono ?_); rintro e w' ⟨rfl, ⟨nd, rfl⟩⟩; (try first | exact ⟨rfl, _, World.drewN_drewN _ _ _⟩ | exact ⟨rfl, _, Eq.trans (World.drewN_drewN _ _ _) (congrArg (World.drewN _) (Nat.add_assoc _ _ _))⟩)))
                      repeat (go_quiet (first | (go_at_call 14; (with_reducible refine (calepinref02_Fold.calls kj7 (rdOf ByteArray.empty l0 x15_1) t180 _ A11.out).mono ?_); rintro e w' ⟨rfl, ⟨nd, rfl⟩⟩; (try first | exact ⟨rfl, _, World.drewN_drewN _ _ _⟩ | exact ⟨rfl, _, Eq.trans (World.drewN_drewN _ _ _) (congrArg (World.drewN _) (Nat.add_assoc _ _ _))⟩))); go_upto_region 10 with (first | (go_at_call 14; (with_reducible refine (calepinref02_Fold.calls kj7 (rdOf ByteArray.empty l0 x15_1) t180 _ A11.out).mono ?_); rintro e w' ⟨rfl, ⟨nd, rfl⟩⟩; (try first | exact ⟨rfl, _, World.drewN_drewN _ _ _⟩ | exact ⟨rfl, _, Eq.trans (World.drewN_drewN _ _ _) (congrArg (World.drewN _) (Nat.add_assoc _ _ _))⟩))))
                      (try simp only [Act.put, List.setIfInBounds_toArray, List.set_cons_zero, List.set_cons_succ])
                      go_cut [4] (fun v4 wc => ∃ (kq : Nat) (x4_12 : Bool), v4 = .bool x4_12 ∧ Aside0 (calepinlaw02_FoldWrites.j2 kq l0 (x3_1 ++ t180) x4_12 (rdOf ByteArray.empty l0 x15_1) l0 (l0.length : Int) x15_1 = some r) ∧ Aside0 (kq ≤ kj7) ∧ Aside0 (Below w.heap.size w wc))
                      case first =>
                        have H := HC13.out
                        clear HC13
                        by_cases c14 : x4_1 = true
                        · subst c14
                          have H1 : ((calepinref02_Good.f kj7 (rdOf ByteArray.empty l0 x15_1)).bind fun t181 => (calepinlaw02_FoldWrites.j2 kj7 l0 (x3_1 ++ t180) t181 (rdOf ByteArray.empty l0 x15_1) l0 (l0.length : Int) x15_1)) = some r := by rw [if_pos rfl] at H; exact H
                          clear H
                          have H := H1
                          clear H1
                          replace H := Option.bind_eq_some_iff.mp H
                          obtain ⟨t181, A150, H⟩ := H
                          replace H : (calepinlaw02_FoldWrites.j2 kj7 l0 (x3_1 ++ t180) t181 (rdOf ByteArray.empty l0 x15_1) l0 (l0.length : Int) x15_1) = some r := H
                          have A15 := Aside0.mk A150
                          clear A150
                          have H' := Aside0.mk H
                          clear H
                          go_wp2_with (first | (go_at_call 11; (with_reducible refine (calepinref02_Good.calls kj7 (rdOf ByteArray.empty l0 x15_1) t181 _ A15.out).mono ?_); rintro e w' ⟨rfl, ⟨nd, rfl⟩⟩; (try first | exact ⟨rfl, _, World.drewN_drewN _ _ _⟩ | exact ⟨rfl, _, Eq.trans (World.drewN_drewN _ _ _) (congrArg (World.drewN _) (Nat.add_assoc _ _ _))⟩)))
                          repeat (go_quiet (first | (go_at_call 11; (with_reducible refine (calepinref02_Good.calls kj7 (rdOf ByteArray.empty l0 x15_1) t181 _ A15.out).mono ?_); rintro e w' ⟨rfl, ⟨nd, rfl⟩⟩; (try first | exact ⟨rfl, _, World.drewN_drewN _ _ _⟩ | exact ⟨rfl, _, Eq.trans (World.drewN_drewN _ _ _) (congrArg (World.drewN _) (Nat.add_assoc _ _ _))⟩))); try go_wp2_with (first | (go_at_call 11; (with_reducible refine (calepinref02_Good.calls kj7 (rdOf ByteArray.empty l0 x15_1) t181 _ A15.out).mono ?_); rintro e w' ⟨rfl, ⟨nd, rfl⟩⟩; (try first | exact ⟨rfl, _, World.drewN_drewN _ _ _⟩ | exact ⟨rfl, _, Eq.trans (World.drewN_drewN _ _ _) (congrArg (World.drewN _) (Nat.add_assoc _ _ _))⟩))))
                          go_meet
                          case rel => exact ⟨_, (t181), (by first | rfl | (simp; done) | (simp [*]; done)), H', ⟨by have := HK1.out; have := HJ7.out; first | omega | exact Nat.le_refl _⟩, ⟨by repeat (first | (with_reducible first | exact HB.out | apply below_alloc | apply pw_below_drewN | apply below_drew1) | exact HB.out)⟩⟩
                        · replace c14 := Bool.eq_false_iff.mpr c14
                          subst c14
                          have H1 : (calepinlaw02_FoldWrites.j2 kj7 l0 (x3_1 ++ t180) false (rdOf ByteArray.empty l0 x15_1) l0 (l0.length : Int) x15_1) = some r := by rw [if_neg (show ¬ (false = true) by decide)] at H; exact H
                          clear H
                          have H := H1
                          clear H1
                          have H' := Aside0.mk H
                          clear H
                          go_wp2
                          repeat (go_quiet (fail); try go_wp2)
                          go_meet
                          case rel => exact ⟨_, (false), (by first | rfl | (simp; done) | (simp [*]; done)), H', ⟨by have := HK1.out; have := HJ7.out; first | omega | exact Nat.le_refl _⟩, ⟨by repeat (first | (with_reducible first | exact HB.out | apply below_alloc | apply pw_below_drewN | apply below_drew1) | exact HB.out)⟩⟩
                      case rest =>
                        clear HC13
                        try clear c1
                        try clear p1
                        try clear q1
                        try clear hx1
                        try clear p2
                        try clear c3
                        try clear c5
                        try clear c5b0
                        try clear c6
                        try clear c6b0
                        try clear c7
                        try clear c7b0
                        try clear c9
                        try clear c9b0
                        try clear c10
                        try clear c12
                        try clear c12b0
                        try clear c12b1
                        try clear c12b2
                        try clear c14
                        try clear hx179_0
                        try clear p1
                        try clear p179
                        try clear p2
                        try clear q1
                        try clear q179
                        obtain ⟨kq, x4_12, rfl, HA, HJ12, HB⟩ := hcut
                        cases kq with
                        | zero => exact absurd HA.out (by simp [calepinlaw02_FoldWrites.j2])
                        | succ kj12 =>
                          have H := HA.out
                          clear HA
                          simp only [calepinlaw02_FoldWrites.j2] at H
                          replace H := Option.bind_eq_some_iff.mp H
                          obtain ⟨t182, A160, H⟩ := H
                          replace H : ((calepinref02_Good.f kj12 (rdOf ByteArray.empty l0 x15_1)).bind fun t183 => (if (t182 != t183) = true then (some false) else (calepinlaw02_FoldWrites.l0 kj12 l0 (x3_1 ++ t180) x4_12 l0 (l0.length : Int) (wrap64 (x15_1 + 1))))) = some r := H
                          have A16 := Aside0.mk A160
                          clear A160
                          replace H := Option.bind_eq_some_iff.mp H
                          obtain ⟨t183, A170, H⟩ := H
                          replace H : (if (t182 != t183) = true then (some false) else (calepinlaw02_FoldWrites.l0 kj12 l0 (x3_1 ++ t180) x4_12 l0 (l0.length : Int) (wrap64 (x15_1 + 1)))) = some r := H
                          have A17 := Aside0.mk A170
                          clear A170
                          by_cases c18 : (t182 != t183) = true
                          · rw [if_pos c18] at H
                            have c18b0 : (t182 != t183) = true := c18
                            (try (have c18b1 : decide (t182 = t183) = false := by simpa using c18))
                            (try (have c18b2 : (t182 == t183) = false := by simpa using c18))
                            (try (have c18b3 : ¬ (t182 = t183) := by simpa using c18))
                            clear c18
                            obtain rfl := Option.some.inj H
                            go_wp2_with (first | (go_at_call 15; (with_reducible refine (fold_Good.calls (rdOf ByteArray.empty l0 x15_1) t182 _ (env_at HE.out (by repeat (first | (with_reducible first | exact HB.out | apply below_alloc | apply pw_below_drewN | apply below_drew1) | exact HB.out))) A16.out).mono ?_); rintro e w19 ⟨rfl, hb⟩; have n0_ := Aside0.mk (below_step (by repeat (first | (with_reducible first | exact HB.out | apply below_alloc | apply pw_below_drewN | apply below_drew1) | exact HB.out)) hb); clear HB; have HB := n0_; clear n0_; (try clear hb); (try clear hb2); (try clear hk); (try clear hi)) | (go_at_call 11; (with_reducible refine (calepinref02_Good.calls kj12 (rdOf ByteArray.empty l0 x15_1) t183 _ A17.out).mono ?_); rintro e w' ⟨rfl, ⟨nd, rfl⟩⟩; (try first | exact ⟨rfl, _, World.drewN_drewN _ _ _⟩ | exact ⟨rfl, _, Eq.trans (World.drewN_drewN _ _ _) (congrArg (World.drewN _) (Nat.add_assoc _ _ _))⟩)))
                            repeat (go_quiet (first | (go_at_call 15; (with_reducible refine (fold_Good.calls (rdOf ByteArray.empty l0 x15_1) t182 _ (env_at HE.out (by repeat (first | (with_reducible first | exact HB.out | apply below_alloc | apply pw_below_drewN | apply below_drew1) | exact HB.out))) A16.out).mono ?_); rintro e w19 ⟨rfl, hb⟩; have n0_ := Aside0.mk (below_step (by repeat (first | (with_reducible first | exact HB.out | apply below_alloc | apply pw_below_drewN | apply below_drew1) | exact HB.out)) hb); clear HB; have HB := n0_; clear n0_; (try clear hb); (try clear hb2); (try clear hk); (try clear hi)) | (go_at_call 11; (with_reducible refine (calepinref02_Good.calls kj12 (rdOf ByteArray.empty l0 x15_1) t183 _ A17.out).mono ?_); rintro e w' ⟨rfl, ⟨nd, rfl⟩⟩; (try first | exact ⟨rfl, _, World.drewN_drewN _ _ _⟩ | exact ⟨rfl, _, Eq.trans (World.drewN_drewN _ _ _) (congrArg (World.drewN _) (Nat.add_assoc _ _ _))⟩))); try go_wp2_with (first | (go_at_call 15; (with_reducible refine (fold_Good.calls (rdOf ByteArray.empty l0 x15_1) t182 _ (env_at HE.out (by repeat (first | (with_reducible first | exact HB.out | apply below_alloc | apply pw_below_drewN | apply below_drew1) | exact HB.out))) A16.out).mono ?_); rintro e w19 ⟨rfl, hb⟩; have n0_ := Aside0.mk (below_step (by repeat (first | (with_reducible first | exact HB.out | apply below_alloc | apply pw_below_drewN | apply below_drew1) | exact HB.out)) hb); clear HB; have HB := n0_; clear n0_; (try clear hb); (try clear hb2); (try clear hk); (try clear hi)) | (go_at_call 11; (with_reducible refine (calepinref02_Good.calls kj12 (rdOf ByteArray.empty l0 x15_1) t183 _ A17.out).mono ?_); rintro e w' ⟨rfl, ⟨nd, rfl⟩⟩; (try first | exact ⟨rfl, _, World.drewN_drewN _ _ _⟩ | exact ⟨rfl, _, Eq.trans (World.drewN_drewN _ _ _) (congrArg (World.drewN _) (Nat.add_assoc _ _ _))⟩))))
                            go_ret
                            exact ⟨by first | rfl | (simp [errW_none, errW_some] <;> rfl) | (simp [*, errW_none, errW_some] <;> rfl), by repeat (first | (with_reducible first | exact HB.out | apply below_alloc | apply pw_below_drewN | apply below_drew1) | exact HB.out)⟩
                          · rw [if_neg c18] at H
                            have c18b0 : (t182 != t183) = false := by simpa using c18
                            (try (have c18b1 : decide (t182 = t183) = true := by simpa using c18))
                            (try (have c18b2 : (t182 == t183) = true := by simpa using c18))
                            clear c18
                            have H' := Aside0.mk H
                            clear H
                            go_wp2_with (first | (go_at_call 15; (with_reducible refine (fold_Good.calls (rdOf ByteArray.empty l0 x15_1) t182 _ (env_at HE.out (by repeat (first | (with_reducible first | exact HB.out | apply below_alloc | apply pw_below_drewN | apply below_drew1) | exact HB.out))) A16.out).mono ?_); rintro e w20 ⟨rfl, hb⟩; have n0_ := Aside0.mk (below_step (by repeat (first | (with_reducible first | exact HB.out | apply below_alloc | apply pw_below_drewN | apply below_drew1) | exact HB.out)) hb); clear HB; have HB := n0_; clear n0_; (try clear hb); (try clear hb2); (try clear hk); (try clear hi)) | (go_at_call 11; (with_reducible refine (calepinref02_Good.calls kj12 (rdOf ByteArray.empty l0 x15_1) t183 _ A17.out).mono ?_); rintro e w' ⟨rfl, ⟨nd, rfl⟩⟩; (try first | exact ⟨rfl, _, World.drewN_drewN _ _ _⟩ | exact ⟨rfl, _, Eq.trans (World.drewN_drewN _ _ _) (congrArg (World.drewN _) (Nat.add_assoc _ _ _))⟩)))
                            repeat (go_quiet (first | (go_at_call 15; (with_reducible refine (fold_Good.calls (rdOf ByteArray.empty l0 x15_1) t182 _ (env_at HE.out (by repeat (first | (with_reducible first | exact HB.out | apply below_alloc | apply pw_below_drewN | apply below_drew1) | exact HB.out))) A16.out).mono ?_); rintro e w20 ⟨rfl, hb⟩; have n0_ := Aside0.mk (below_step (by repeat (first | (with_reducible first | exact HB.out | apply below_alloc | apply pw_below_drewN | apply below_drew1) | exact HB.out)) hb); clear HB; have HB := n0_; clear n0_; (try clear hb); (try clear hb2); (try clear hk); (try clear hi)) | (go_at_call 11; (with_reducible refine (calepinref02_Good.calls kj12 (rdOf ByteArray.empty l0 x15_1) t183 _ A17.out).mono ?_); rintro e w' ⟨rfl, ⟨nd, rfl⟩⟩; (try first | exact ⟨rfl, _, World.drewN_drewN _ _ _⟩ | exact ⟨rfl, _, Eq.trans (World.drewN_drewN _ _ _) (congrArg (World.drewN _) (Nat.add_assoc _ _ _))⟩))); try go_wp2_with (first | (go_at_call 15; (with_reducible refine (fold_Good.calls (rdOf ByteArray.empty l0 x15_1) t182 _ (env_at HE.out (by repeat (first | (with_reducible first | exact HB.out | apply below_alloc | apply pw_below_drewN | apply below_drew1) | exact HB.out))) A16.out).mono ?_); rintro e w20 ⟨rfl, hb⟩; have n0_ := Aside0.mk (below_step (by repeat (first | (with_reducible first | exact HB.out | apply below_alloc | apply pw_below_drewN | apply below_drew1) | exact HB.out)) hb); clear HB; have HB := n0_; clear n0_; (try clear hb); (try clear hb2); (try clear hk); (try clear hi)) | (go_at_call 11; (with_reducible refine (calepinref02_Good.calls kj12 (rdOf ByteArray.empty l0 x15_1) t183 _ A17.out).mono ?_); rintro e w' ⟨rfl, ⟨nd, rfl⟩⟩; (try first | exact ⟨rfl, _, World.drewN_drewN _ _ _⟩ | exact ⟨rfl, _, Eq.trans (World.drewN_drewN _ _ _) (congrArg (World.drewN _) (Nat.add_assoc _ _ _))⟩))))
                            go_roundg kj12
                            case measure => have := HK1.out; have := HJ7.out; have := HJ12.out; omega
                            case rel => exact ⟨((x3_1 ++ t180)), (x4_12), (wrap64 (x15_1 + 1)), (by first | rfl | (simp; done) | (simp [*]; done)), (by first | rfl | (simp; done) | (simp [*]; done)), (by first | rfl | (simp; done) | (simp [*]; done)), H', ⟨by have := HK1.out; have := HJ7.out; have := HJ12.out; omega⟩, ⟨by repeat (first | (with_reducible first | exact HB.out | apply below_alloc | apply pw_below_drewN | apply below_drew1) | exact HB.out)⟩⟩
                    · rw [if_neg c12] at H
                      exact absurd H (by simp)
            · rw [if_neg c7] at H
              exact absurd H (by simp)
          · rw [if_neg c6] at H
            exact absurd H (by simp)
        · rw [if_neg c5] at H
          have c5b0 : decide (x15_1 < (l0.length : Int)) = false := decide_eq_false c5
          clear c5
          replace H := Option.bind_eq_some_iff.mp H
          obtain ⟨t184, A210, H⟩ := H
          replace H : (if t184.toList = x3_1.toList then (if x4_1 = true then ((fold_Unfold.f k1 t184).bind fun bt185 => (if bt185.2 = 0 then (calepinlaw02_FoldWrites.j3 k1 l0 bt185.1 ((bt185.1.length : Int) != (l0.length : Int))) else (calepinlaw02_FoldWrites.j3 k1 l0 bt185.1 true))) else (some true)) else (some false)) = some r := H
          have A21 := Aside0.mk A210
          clear A210
          by_cases c22 : t184.toList = x3_1.toList
          · rw [if_pos c22] at H
            have c22b0 : (t184.toList == x3_1.toList) = true := beq_iff_eq.mpr c22
            have c22b1 : (t184.toList != x3_1.toList) = false := bne_eq_false_iff_eq.mpr c22
            clear c22
            by_cases c23 : x4_1 = true
            · subst c23
              have H1 : ((fold_Unfold.f k1 t184).bind fun bt185 => (if bt185.2 = 0 then (calepinlaw02_FoldWrites.j3 k1 l0 bt185.1 ((bt185.1.length : Int) != (l0.length : Int))) else (calepinlaw02_FoldWrites.j3 k1 l0 bt185.1 true))) = some r := by rw [if_pos rfl] at H; exact H
              clear H
              have H := H1
              clear H1
              replace H := Option.bind_eq_some_iff.mp H
              obtain ⟨⟨t185, t186⟩, A240, H⟩ := H
              replace H : (if t186 = 0 then (calepinlaw02_FoldWrites.j3 k1 l0 t185 ((t185.length : Int) != (l0.length : Int))) else (calepinlaw02_FoldWrites.j3 k1 l0 t185 true)) = some r := H
              have A24 := Aside0.mk A240
              clear A240
              have HC25 := Aside0.mk H
              clear H
              go_upto_region 20 with (first | (go_at_call 12; (with_reducible refine (fold_Fold.calls _ _ l0 t184 _ ?side1 ?side2 (env_at HE.out (by repeat (first | (with_reducible first | exact HB.out | apply below_alloc | apply pw_below_drewN | apply below_drew1) | exact HB.out))) A21.out).mono ?_); (case side1 => repeat (first | exact (Kd.C_below HR0.out HB.out) | (with_reducible refine Kd.C_alloc ?_ _) | (with_reducible refine Kd.C_drewN ?_ _) | (with_reducible refine Kd.C_drew ?_))); (case side2 => exact HC0.out); rintro e w26 ⟨rfl, hb⟩; have n0_ := Aside0.mk (below_step (by repeat (first | (with_reducible first | exact HB.out | apply below_alloc | apply pw_below_drewN | apply below_drew1) | exact HB.out)) hb); clear HB; have HB := n0_; clear n0_; (try clear hb); (try clear hb2); (try clear hk); (try clear hi)) | (go_at_call 9; (with_reducible refine (fold_Unfold.calls k1 t184 t185 t186 _ (env_at HE.out (by repeat (first | (with_reducible first | exact HB.out | apply below_alloc | apply pw_below_drewN | apply below_drew1) | exact HB.out))) A24.out).mono ?_); rintro e w27 ⟨v187, rfl, ho0, hb⟩; have n0_ := Aside0.mk (Kd.R_lower ho0 (below_size (by repeat (first | (with_reducible first | exact HB.out | apply below_alloc | apply pw_below_drewN | apply below_drew1) | exact HB.out)))); have n1_ := Aside0.mk (below_step (by repeat (first | (with_reducible first | exact HB.out | apply below_alloc | apply pw_below_drewN | apply below_drew1) | exact HB.out)) hb); clear HB; have HO188 := n0_; have HB := n1_; clear n0_ n1_; (try clear hb); (try clear hb2); (try clear hk); (try clear hi); (try clear ho0)))
              repeat (go_quiet (first | (go_at_call 12; (with_reducible refine (fold_Fold.calls _ _ l0 t184 _ ?side1 ?side2 (env_at HE.out (by repeat (first | (with_reducible first | exact HB.out | apply below_alloc | apply pw_below_drewN | apply below_drew1) | exact HB.out))) A21.out).mono ?_); (case side1 => repeat (first | exact (Kd.C_below HR0.out HB.out) | (with_reducible refine Kd.C_alloc ?_ _) | (with_reducible refine Kd.C_drewN ?_ _) | (with_reducible refine Kd.C_drew ?_))); (case side2 => exact HC0.out); rintro e w26 ⟨rfl, hb⟩; have n0_ := Aside0.mk (below_step (by repeat (first | (with_reducible first | exact HB.out | apply below_alloc | apply pw_below_drewN | apply below_drew1) | exact HB.out)) hb); clear HB; have HB := n0_; clear n0_; (try clear hb); (try clear hb2); (try clear hk); (try clear hi)) | (go_at_call 9; (with_reducible refine (fold_Unfold.calls k1 t184 t185 t186 _ (env_at HE.out (by repeat (first | (with_reducible first | exact HB.out | apply below_alloc | apply pw_below_drewN | apply below_drew1) | exact HB.out))) A24.out).mono ?_); rintro e w27 ⟨v187, rfl, ho0, hb⟩; have n0_ := Aside0.mk (Kd.R_lower ho0 (below_size (by repeat (first | (with_reducible first | exact HB.out | apply below_alloc | apply pw_below_drewN | apply below_drew1) | exact HB.out)))); have n1_ := Aside0.mk (below_step (by repeat (first | (with_reducible first | exact HB.out | apply below_alloc | apply pw_below_drewN | apply below_drew1) | exact HB.out)) hb); clear HB; have HO188 := n0_; have HB := n1_; clear n0_ n1_; (try clear hb); (try clear hb2); (try clear hk); (try clear hi); (try clear ho0))); go_upto_region 20 with (first | (go_at_call 12; (with_reducible refine (fold_Fold.calls _ _ l0 t184 _ ?side1 ?side2 (env_at HE.out (by repeat (first | (with_reducible first | exact HB.out | apply below_alloc | apply pw_below_drewN | apply below_drew1) | exact HB.out))) A21.out).mono ?_); (case side1 => repeat (first | exact (Kd.C_below HR0.out HB.out) | (with_reducible refine Kd.C_alloc ?_ _) | (with_reducible refine Kd.C_drewN ?_ _) | (with_reducible refine Kd.C_drew ?_))); (case side2 => exact HC0.out); rintro e w26 ⟨rfl, hb⟩; have n0_ := Aside0.mk (below_step (by repeat (first | (with_reducible first | exact HB.out | apply below_alloc | apply pw_below_drewN | apply below_drew1) | exact HB.out)) hb); clear HB; have HB := n0_; clear n0_; (try clear hb); (try clear hb2); (try clear hk); (try clear hi)) | (go_at_call 9; (with_reducible refine (fold_Unfold.calls k1 t184 t185 t186 _ (env_at HE.out (by repeat (first | (with_reducible first | exact HB.out | apply below_alloc | apply pw_below_drewN | apply below_drew1) | exact HB.out))) A24.out).mono ?_); rintro e w27 ⟨v187, rfl, ho0, hb⟩; have n0_ := Aside0.mk (Kd.R_lower ho0 (below_size (by repeat (first | (with_reducible first | exact HB.out | apply below_alloc | apply pw_below_drewN | apply below_drew1) | exact HB.out)))); have n1_ := Aside0.mk (below_step (by repeat (first | (with_reducible first | exact HB.out | apply below_alloc | apply pw_below_drewN | apply below_drew1) | exact HB.out)) hb); clear HB; have HO188 := n0_; have HB := n1_; clear n0_ n1_; (try clear hb); (try clear hb2); (try clear hk); (try clear hi); (try clear ho0))))
              (try simp only [Act.put, List.setIfInBounds_toArray, List.set_cons_zero, List.set_cons_succ])
              go_cut [62] (fun v62 wc => ∃ (kq : Nat) (x62_24 : Bool), v62 = .bool x62_24 ∧ Aside0 (calepinlaw02_FoldWrites.j3 kq l0 t185 x62_24 = some r) ∧ Aside0 (kq ≤ k1) ∧ Aside0 (Kd.R Kd.string 9 wc w.heap.size (fun _ => True) v187 t185) ∧ Aside0 (Below w.heap.size w wc))
              case first =>
                have H := HC25.out
                clear HC25
                by_cases c28 : t186 = 0
                · rw [if_pos c28] at H
                  have c28b0 : (t186 == 0) = true := beq_iff_eq.mpr c28
                  have c28b1 : (t186 != 0) = false := bne_eq_false_iff_eq.mpr c28
                  clear c28
                  (first | rw [c28b0] | (simp only [i64_w, i32_w]; rw [c28b0]) | skip)
                  have H' := Aside0.mk H
                  clear H
                  obtain ⟨Ao29, co29, eo29⟩ := Kd.R_slice HO188.out
                  subst eo29
                  go_wp2
                  repeat (go_quiet (fail); try go_wp2)
                  go_meet
                  case rel => exact ⟨_, (((t185.length : Int) != (l0.length : Int))), (by first | rfl | (simp; done) | (simp [*]; done)), H', ⟨by have := HK1.out; first | omega | exact Nat.le_refl _⟩, ⟨by (with_reducible repeat (first | apply Kd.R_alloc | apply Kd.R_drewN | apply Kd.R_drew)); exact HO188.out⟩, ⟨by repeat (first | (with_reducible first | exact HB.out | apply below_alloc | apply pw_below_drewN | apply below_drew1) | exact HB.out)⟩⟩
                · rw [if_neg c28] at H
                  have c28b0 : (t186 == 0) = false := beq_eq_false_iff_ne.mpr c28
                  have c28b1 : (t186 != 0) = true := bne_iff_ne.mpr c28
                  (first | rw [c28b0] | (simp only [i64_w, i32_w]; rw [c28b0]) | skip)
                  have H' := Aside0.mk H
                  clear H
                  go_wp2
                  repeat (go_quiet (fail); try go_wp2)
                  go_meet
                  case rel => exact ⟨_, (true), (by first | rfl | (simp; done) | (simp [*]; done)), H', ⟨by have := HK1.out; first | omega | exact Nat.le_refl _⟩, ⟨by (with_reducible repeat (first | apply Kd.R_alloc | apply Kd.R_drewN | apply Kd.R_drew)); exact HO188.out⟩, ⟨by repeat (first | (with_reducible first | exact HB.out | apply below_alloc | apply pw_below_drewN | apply below_drew1) | exact HB.out)⟩⟩
              case rest =>
                clear HC25
                try clear c1
                try clear p1
                try clear q1
                try clear hx1
                try clear c2
                try clear p2
                try clear c3
                try clear c5
                try clear c5b0
                try clear c6
                try clear c6b0
                try clear p6
                try clear c7
                try clear c7b0
                try clear c9
                try clear c9b0
                try clear c10
                try clear c12
                try clear c12b0
                try clear c12b1
                try clear c12b2
                try clear c14
                try clear p17
                try clear q17
                try clear hx17
                try clear c18
                try clear c18b0
                try clear c18b1
                try clear c18b2
                try clear c22
                try clear c22b0
                try clear c22b1
                try clear c23
                try clear c28
                try clear c28b0
                try clear c28b1
                try clear hx179_0
                try clear p1
                try clear p179
                try clear p2
                try clear q1
                try clear q179
                obtain ⟨kq, x62_24, rfl, HA, HJ24, HO_8, HB⟩ := hcut
                cases kq with
                | zero => exact absurd HA.out (by simp [calepinlaw02_FoldWrites.j3])
                | succ kj24 =>
                  have H := HA.out
                  clear HA
                  simp only [calepinlaw02_FoldWrites.j3] at H
                  by_cases c30 : x62_24 = true
                  · subst c30
                    have H1 : (some false) = some r := by rw [if_pos rfl] at H; exact H
                    clear H
                    have H := H1
                    clear H1
                    obtain rfl := Option.some.inj H
                    go_wp2
                    repeat (go_quiet (fail); try go_wp2)
                    go_ret
                    exact ⟨by first | rfl | (simp [errW_none, errW_some] <;> rfl) | (simp [*, errW_none, errW_some] <;> rfl), by repeat (first | (with_reducible first | exact HB.out | apply below_alloc | apply pw_below_drewN | apply below_drew1) | exact HB.out)⟩
                  · replace c30 := Bool.eq_false_iff.mpr c30
                    subst c30
                    have H1 : (calepinlaw02_FoldWrites.l1 kj24 l0 t185 (t185.length : Int) 0) = some r := by rw [if_neg (show ¬ (false = true) by decide)] at H; exact H
                    clear H
                    have H := H1
                    clear H1
                    have H' := Aside0.mk H
                    clear H
                    obtain ⟨Ao31, co31, eo31⟩ := Kd.R_slice HO_8.out
                    subst eo31
                    go_wp2
                    repeat (go_quiet (fail); try go_wp2)
                    go_loopg [65] kj24 (fun kq v65 w' => ∃ (x65_3 : Int), v65 = .int .i64 x65_3 ∧ Aside0 (calepinlaw02_FoldWrites.l1 kq l0 t185 (t185.length : Int) x65_3 = some r) ∧ Aside0 (kq ≤ kj24) ∧ Aside0 (Kd.R Kd.string 9 w' w.heap.size (fun _ => True) (.slice Ao31 t185.length co31) t185) ∧ Aside0 (Below w.heap.size w w'))
                    case atStart => exact ⟨(0), (by first | rfl | (simp; done) | (simp [*]; done)), H', ⟨Nat.le_refl _⟩, ⟨by (with_reducible repeat (first | apply Kd.R_alloc | apply Kd.R_drewN | apply Kd.R_drew)); exact HO_8.out⟩, ⟨by repeat (first | (with_reducible first | exact HB.out | apply below_alloc | apply pw_below_drewN | apply below_drew1) | exact HB.out)⟩⟩
                    case round =>
                      clear H'
                      try clear c1
                      try clear p1
                      try clear q1
                      try clear hx1
                      try clear c2
                      try clear p2
                      try clear c3
                      try clear c5
                      try clear c5b0
                      try clear c6
                      try clear c6b0
                      try clear p6
                      try clear c7
                      try clear c7b0
                      try clear c9
                      try clear c9b0
                      try clear c10
                      try clear c12
                      try clear c12b0
                      try clear c12b1
                      try clear c12b2
                      try clear c14
                      try clear p17
                      try clear q17
                      try clear hx17
                      try clear c18
                      try clear c18b0
                      try clear c18b1
                      try clear c18b2
                      try clear c22
                      try clear c22b0
                      try clear c22b1
                      try clear c23
                      try clear c28
                      try clear c28b0
                      try clear c28b1
                      try clear c30
                      try clear hx179_0
                      try clear p1
                      try clear p17
                      try clear p179
                      try clear p2
                      try clear p6
                      try clear q1
                      try clear q17
                      try clear q179
                      obtain ⟨x65_3, rfl, HA, HK3, HO_8, HB⟩ := hrel
                      cases gk with
                      | zero => exact absurd HA.out (by simp [calepinlaw02_FoldWrites.l1])
                      | succ k3 =>
                        have H := HA.out
                        clear HA
                        simp only [calepinlaw02_FoldWrites.l1] at H
                        by_cases c32 : x65_3 < (t185.length : Int)
                        · rw [if_pos c32] at H
                          have c32b0 : decide (x65_3 < (t185.length : Int)) = true := decide_eq_true c32
                          clear c32
                          by_cases c33 : 0 ≤ x65_3
                          · rw [if_pos c33] at H
                            have c33b0 : decide (0 ≤ x65_3) = true := decide_eq_true c33
                            clear c33
                            by_cases c34 : x65_3 < (t185.length : Int)
                            · rw [if_pos c34] at H
                              have c34b0 : decide (x65_3 < (t185.length : Int)) = true := decide_eq_true c34
                              clear c34
                              by_cases c35 : x65_3 < (l0.length : Int)
                              · rw [if_pos c35] at H
                                have c35b0 : decide (x65_3 < (l0.length : Int)) = true := decide_eq_true c35
                                clear c35
                                by_cases c36 : (rdOf ByteArray.empty t185 x65_3).toList = (rdOf ByteArray.empty l0 x65_3).toList
                                · rw [if_pos c36] at H
                                  have c36b0 : ((rdOf ByteArray.empty t185 x65_3).toList == (rdOf ByteArray.empty l0 x65_3).toList) = true := beq_iff_eq.mpr c36
                                  have c36b1 : ((rdOf ByteArray.empty t185 x65_3).toList != (rdOf ByteArray.empty l0 x65_3).toList) = false := bne_eq_false_iff_eq.mpr c36
                                  clear c36
                                  have H' := Aside0.mk H
                                  clear H
                                  have p189 : 0 ≤ (x65_3 : Int) := of_decide_eq_true (by first | (with_reducible assumption) | assumption)
                                  have q189 : x65_3 < (t185.length : Int) := of_decide_eq_true (by first | (with_reducible assumption) | assumption)
                                  obtain ⟨ad189, e189, hx189_0⟩ := Kd.at_string (Kd.R_reads' HO_8.out).2.2 x65_3 p189 q189
                                  cases e189
                                  replace p189 := eq_true p189
                                  replace q189 := eq_true q189
                                  have p190 : 0 ≤ (x65_3 : Int) := of_decide_eq_true (by first | (with_reducible assumption) | assumption)
                                  have q190 : x65_3 < (l0.length : Int) := of_decide_eq_true (by first | (with_reducible assumption) | assumption)
                                  obtain ⟨ad190, e190, hx190_0⟩ := Kd.at_string HR0.out x65_3 p190 q190
                                  cases e190
                                  replace hx190_0 := (HB.out.cell (World.block_lt_of_cell? w _ hx190_0)).trans hx190_0
                                  replace p190 := eq_true p190
                                  replace q190 := eq_true q190
                                  go_wp2
                                  repeat (go_quiet (fail); try go_wp2)
                                  go_roundg k3
                                  case measure => have := HK1.out; have := HJ24.out; have := HK3.out; omega
                                  case rel => exact ⟨(wrap64 (x65_3 + 1)), (by first | rfl | (simp; done) | (simp [*]; done)), H', ⟨by have := HK1.out; have := HJ24.out; have := HK3.out; omega⟩, ⟨by (with_reducible repeat (first | apply Kd.R_alloc | apply Kd.R_drewN | apply Kd.R_drew)); exact HO_8.out⟩, ⟨by repeat (first | (with_reducible first | exact HB.out | apply below_alloc | apply pw_below_drewN | apply below_drew1) | exact HB.out)⟩⟩
                                · rw [if_neg c36] at H
                                  have c36b0 : ((rdOf ByteArray.empty t185 x65_3).toList == (rdOf ByteArray.empty l0 x65_3).toList) = false := beq_eq_false_iff_ne.mpr c36
                                  have c36b1 : ((rdOf ByteArray.empty t185 x65_3).toList != (rdOf ByteArray.empty l0 x65_3).toList) = true := bne_iff_ne.mpr c36
                                  obtain rfl := Option.some.inj H
                                  have p189 : 0 ≤ (x65_3 : Int) := of_decide_eq_true (by first | (with_reducible assumption) | assumption)
                                  have q189 : x65_3 < (t185.length : Int) := of_decide_eq_true (by first | (with_reducible assumption) | assumption)
                                  obtain ⟨ad189, e189, hx189_0⟩ := Kd.at_string (Kd.R_reads' HO_8.out).2.2 x65_3 p189 q189
                                  cases e189
                                  replace p189 := eq_true p189
                                  replace q189 := eq_true q189
                                  have p190 : 0 ≤ (x65_3 : Int) := of_decide_eq_true (by first | (with_reducible assumption) | assumption)
                                  have q190 : x65_3 < (l0.length : Int) := of_decide_eq_true (by first | (with_reducible assumption) | assumption)
                                  obtain ⟨ad190, e190, hx190_0⟩ := Kd.at_string HR0.out x65_3 p190 q190
                                  cases e190
                                  replace hx190_0 := (HB.out.cell (World.block_lt_of_cell? w _ hx190_0)).trans hx190_0
                                  replace p190 := eq_true p190
                                  replace q190 := eq_true q190
                                  go_wp2
                                  repeat (go_quiet (fail); try go_wp2)
                                  go_ret
                                  exact ⟨by first | rfl | (simp [errW_none, errW_some] <;> rfl) | (simp [*, errW_none, errW_some] <;> rfl), by repeat (first | (with_reducible first | exact HB.out | apply below_alloc | apply pw_below_drewN | apply below_drew1) | exact HB.out)⟩
                              · rw [if_neg c35] at H
                                exact absurd H (by simp)
                            · rw [if_neg c34] at H
                              exact absurd H (by simp)
                          · rw [if_neg c33] at H
                            exact absurd H (by simp)
                        · rw [if_neg c32] at H
                          have c32b0 : decide (x65_3 < (t185.length : Int)) = false := decide_eq_false c32
                          clear c32
                          obtain rfl := Option.some.inj H
                          go_wp2
                          repeat (go_quiet (fail); try go_wp2)
                          go_ret
                          exact ⟨by first | rfl | (simp [errW_none, errW_some] <;> rfl) | (simp [*, errW_none, errW_some] <;> rfl), by repeat (first | (with_reducible first | exact HB.out | apply below_alloc | apply pw_below_drewN | apply below_drew1) | exact HB.out)⟩
            · replace c23 := Bool.eq_false_iff.mpr c23
              subst c23
              have H1 : (some true) = some r := by rw [if_neg (show ¬ (false = true) by decide)] at H; exact H
              clear H
              have H := H1
              clear H1
              obtain rfl := Option.some.inj H
              go_wp2_with (first | (go_at_call 12; (with_reducible refine (fold_Fold.calls _ _ l0 t184 _ ?side1 ?side2 (env_at HE.out (by repeat (first | (with_reducible first | exact HB.out | apply below_alloc | apply pw_below_drewN | apply below_drew1) | exact HB.out))) A21.out).mono ?_); (case side1 => repeat (first | exact (Kd.C_below HR0.out HB.out) | (with_reducible refine Kd.C_alloc ?_ _) | (with_reducible refine Kd.C_drewN ?_ _) | (with_reducible refine Kd.C_drew ?_))); (case side2 => exact HC0.out); rintro e w37 ⟨rfl, hb⟩; have n0_ := Aside0.mk (below_step (by repeat (first | (with_reducible first | exact HB.out | apply below_alloc | apply pw_below_drewN | apply below_drew1) | exact HB.out)) hb); clear HB; have HB := n0_; clear n0_; (try clear hb); (try clear hb2); (try clear hk); (try clear hi)))
              repeat (go_quiet (first | (go_at_call 12; (with_reducible refine (fold_Fold.calls _ _ l0 t184 _ ?side1 ?side2 (env_at HE.out (by repeat (first | (with_reducible first | exact HB.out | apply below_alloc | apply pw_below_drewN | apply below_drew1) | exact HB.out))) A21.out).mono ?_); (case side1 => repeat (first | exact (Kd.C_below HR0.out HB.out) | (with_reducible refine Kd.C_alloc ?_ _) | (with_reducible refine Kd.C_drewN ?_ _) | (with_reducible refine Kd.C_drew ?_))); (case side2 => exact HC0.out); rintro e w37 ⟨rfl, hb⟩; have n0_ := Aside0.mk (below_step (by repeat (first | (with_reducible first | exact HB.out | apply below_alloc | apply pw_below_drewN | apply below_drew1) | exact HB.out)) hb); clear HB; have HB := n0_; clear n0_; (try clear hb); (try clear hb2); (try clear hk); (try clear hi))); try go_wp2_with (first | (go_at_call 12; (with_reducible refine (fold_Fold.calls _ _ l0 t184 _ ?side1 ?side2 (env_at HE.out (by repeat (first | (with_reducible first | exact HB.out | apply below_alloc | apply pw_below_drewN | apply below_drew1) | exact HB.out))) A21.out).mono ?_); (case side1 => repeat (first | exact (Kd.C_below HR0.out HB.out) | (with_reducible refine Kd.C_alloc ?_ _) | (with_reducible refine Kd.C_drewN ?_ _) | (with_reducible refine Kd.C_drew ?_))); (case side2 => exact HC0.out); rintro e w37 ⟨rfl, hb⟩; have n0_ := Aside0.mk (below_step (by repeat (first | (with_reducible first | exact HB.out | apply below_alloc | apply pw_below_drewN | apply below_drew1) | exact HB.out)) hb); clear HB; have HB := n0_; clear n0_; (try clear hb); (try clear hb2); (try clear hk); (try clear hi))))
              go_ret
              exact ⟨by first | rfl | (simp [errW_none, errW_some] <;> rfl) | (simp [*, errW_none, errW_some] <;> rfl), by repeat (first | (with_reducible first | exact HB.out | apply below_alloc | apply pw_below_drewN | apply below_drew1) | exact HB.out)⟩
          · rw [if_neg c22] at H
            have c22b0 : (t184.toList == x3_1.toList) = false := beq_eq_false_iff_ne.mpr c22
            have c22b1 : (t184.toList != x3_1.toList) = true := bne_iff_ne.mpr c22
            obtain rfl := Option.some.inj H
            go_wp2_with (first | (go_at_call 12; (with_reducible refine (fold_Fold.calls _ _ l0 t184 _ ?side1 ?side2 (env_at HE.out (by repeat (first | (with_reducible first | exact HB.out | apply below_alloc | apply pw_below_drewN | apply below_drew1) | exact HB.out))) A21.out).mono ?_); (case side1 => repeat (first | exact (Kd.C_below HR0.out HB.out) | (with_reducible refine Kd.C_alloc ?_ _) | (with_reducible refine Kd.C_drewN ?_ _) | (with_reducible refine Kd.C_drew ?_))); (case side2 => exact HC0.out); rintro e w38 ⟨rfl, hb⟩; have n0_ := Aside0.mk (below_step (by repeat (first | (with_reducible first | exact HB.out | apply below_alloc | apply pw_below_drewN | apply below_drew1) | exact HB.out)) hb); clear HB; have HB := n0_; clear n0_; (try clear hb); (try clear hb2); (try clear hk); (try clear hi)))
            repeat (go_quiet (first | (go_at_call 12; (with_reducible refine (fold_Fold.calls _ _ l0 t184 _ ?side1 ?side2 (env_at HE.out (by repeat (first | (with_reducible first | exact HB.out | apply below_alloc | apply pw_below_drewN | apply below_drew1) | exact HB.out))) A21.out).mono ?_); (case side1 => repeat (first | exact (Kd.C_below HR0.out HB.out) | (with_reducible refine Kd.C_alloc ?_ _) | (with_reducible refine Kd.C_drewN ?_ _) | (with_reducible refine Kd.C_drew ?_))); (case side2 => exact HC0.out); rintro e w38 ⟨rfl, hb⟩; have n0_ := Aside0.mk (below_step (by repeat (first | (with_reducible first | exact HB.out | apply below_alloc | apply pw_below_drewN | apply below_drew1) | exact HB.out)) hb); clear HB; have HB := n0_; clear n0_; (try clear hb); (try clear hb2); (try clear hk); (try clear hi))); try go_wp2_with (first | (go_at_call 12; (with_reducible refine (fold_Fold.calls _ _ l0 t184 _ ?side1 ?side2 (env_at HE.out (by repeat (first | (with_reducible first | exact HB.out | apply below_alloc | apply pw_below_drewN | apply below_drew1) | exact HB.out))) A21.out).mono ?_); (case side1 => repeat (first | exact (Kd.C_below HR0.out HB.out) | (with_reducible refine Kd.C_alloc ?_ _) | (with_reducible refine Kd.C_drewN ?_ _) | (with_reducible refine Kd.C_drew ?_))); (case side2 => exact HC0.out); rintro e w38 ⟨rfl, hb⟩; have n0_ := Aside0.mk (below_step (by repeat (first | (with_reducible first | exact HB.out | apply below_alloc | apply pw_below_drewN | apply below_drew1) | exact HB.out)) hb); clear HB; have HB := n0_; clear n0_; (try clear hb); (try clear hb2); (try clear hk); (try clear hi))))
            go_ret
            exact ⟨by first | rfl | (simp [errW_none, errW_some] <;> rfl) | (simp [*, errW_none, errW_some] <;> rfl), by repeat (first | (with_reducible first | exact HB.out | apply below_alloc | apply pw_below_drewN | apply below_drew1) | exact HB.out)⟩
  · replace c3 := Bool.eq_false_iff.mpr c3
    subst c3
    have H1 : (some false) = some r := by rw [if_neg (show ¬ (false = true) by decide)] at H; exact H
    clear H
    have H := H1
    clear H1
    obtain rfl := Option.some.inj H
    go_enter Tryd.func5, Tryd.ntmps5
    go_wp2_with (first | (go_at_call 8; (with_reducible refine (calepinlaw02_first.calls k  false _ (env_at HE.out (by repeat (first | (with_reducible first | exact HB.out | apply below_alloc | apply pw_below_drewN | apply below_drew1) | exact HB.out))) A2.out).mono ?_); rintro e w39 ⟨rfl, hb⟩; have n0_ := Aside0.mk (below_step (by repeat (first | (with_reducible first | exact HB.out | apply below_alloc | apply pw_below_drewN | apply below_drew1) | exact HB.out)) hb); clear HB; have HB := n0_; clear n0_; (try clear hb); (try clear hb2); (try clear hk); (try clear hi)))
    repeat (go_quiet (first | (go_at_call 8; (with_reducible refine (calepinlaw02_first.calls k  false _ (env_at HE.out (by repeat (first | (with_reducible first | exact HB.out | apply below_alloc | apply pw_below_drewN | apply below_drew1) | exact HB.out))) A2.out).mono ?_); rintro e w39 ⟨rfl, hb⟩; have n0_ := Aside0.mk (below_step (by repeat (first | (with_reducible first | exact HB.out | apply below_alloc | apply pw_below_drewN | apply below_drew1) | exact HB.out)) hb); clear HB; have HB := n0_; clear n0_; (try clear hb); (try clear hb2); (try clear hk); (try clear hi))); try go_wp2_with (first | (go_at_call 8; (with_reducible refine (calepinlaw02_first.calls k  false _ (env_at HE.out (by repeat (first | (with_reducible first | exact HB.out | apply below_alloc | apply pw_below_drewN | apply below_drew1) | exact HB.out))) A2.out).mono ?_); rintro e w39 ⟨rfl, hb⟩; have n0_ := Aside0.mk (below_step (by repeat (first | (with_reducible first | exact HB.out | apply below_alloc | apply pw_below_drewN | apply below_drew1) | exact HB.out)) hb); clear HB; have HB := n0_; clear n0_; (try clear hb); (try clear hb2); (try clear hk); (try clear hi))))
    go_ret
    exact ⟨by first | rfl | (simp [errW_none, errW_some] <;> rfl) | (simp [*, errW_none, errW_some] <;> rfl), by repeat (first | (with_reducible first | exact HB.out | apply below_alloc | apply pw_below_drewN | apply below_drew1) | exact HB.out)⟩

end Go.Proofs.YtpjidedgifjgeaaDoor.Pf
