-- Written by a program of this session (wip/extprint.py) over the kit's print. Not trusted: Lean checks it.
import Derived.Test.YtpifopiopgbbaaaDoorPfx0
import Derived.Test.YtpifopiopgbbaaaDoorPfx1
import Derived.Test.YtpifopiopgbbaaaDoorPfx2
import Derived.Test.YtpifopiopgbbaaaDoorPfx6
namespace Go.Proofs.YtpifopiopgbbaaaDoor.Pf
open Go.RowKit Go.Proofs.YtpifopiopgbbaaaDoorW.PrintWords Go.Proofs.YtpifopiopgbbaaaDoorW.PrintLast Go.Proofs.YtpifopiopgbbaaaDoorW.PrintMore
attribute [local go_sem] max2_int min2_int max_two min_two max_three min_three max_four min_four   -- for this text's walks alone
set_option linter.unusedVariables false
set_option linter.unusedSimpArgs false

/-! ### calepinlaw06_PathMakes: function 3 -/
def calepinlaw06_PathMakes.j0 : Nat → ByteArray → ByteArray → Bool → Option (Bool)
  | 0, _, _, _ => none
  | k + 1, x0, x1, x47 => if x47 = true then (some false) else ((path_Of.f k x0 x1).bind fun bt181 => ((calepinref06_Of.f k x0 x1).bind fun bt183 => (if bt183.2 = true then ((path_Parse.f k bt181.1).bind fun bt185 => (if bt181.2 = 0 then (if bt181.1.toList = bt183.1.toList then (if bt185.2.2 = 0 then (if bt185.1.toList = x0.toList then (some (bt185.2.1.toList == x1.toList)) else (some false)) else (some false)) else (some false)) else (some false))) else (if bt181.2 = 60 then (some (bt181.1.toList == ([] : List UInt8))) else (some false)))))
def calepinlaw06_PathMakes.f (k : Nat) (a0 : ByteArray) (a1 : ByteArray) : Option (Bool) := (calepinlaw06_first.f k).bind fun t176 => (if t176 = true then ((path_Segment.f a0).bind fun bt177 => ((calepinref06_Fits.f k a0).bind fun t179 => (if (t179 != (bt177.2 == 0)) = true then (calepinlaw06_PathMakes.j0 k a0 a1 true) else (if bt177.2 = 0 then ((calepinref06_Segment.f k a0).bind fun t180 => (if bt177.1.toList = t180.toList then (calepinlaw06_PathMakes.j0 k a0 a1 false) else (calepinlaw06_PathMakes.j0 k a0 a1 true))) else (if bt177.2 = 60 then (calepinlaw06_PathMakes.j0 k a0 a1 (bt177.1.toList != ([] : List UInt8))) else (calepinlaw06_PathMakes.j0 k a0 a1 true)))))) else (some false))
theorem calepinlaw06_PathMakes.mono_l : ∀ k, (∀ y0 y1 y2, LeO (calepinlaw06_PathMakes.j0 k y0 y1 y2) (calepinlaw06_PathMakes.j0 (k + 1) y0 y1 y2))
  | 0 => fun _ _ _ r h => by simp [calepinlaw06_PathMakes.j0] at h
  | k + 1 => by
    have ih0 := calepinlaw06_PathMakes.mono_l k
    · intro y0 y1 y2
      unfold calepinlaw06_PathMakes.j0
      repeat' first
      | (with_reducible exact ih0 _ _ _)
      | (with_reducible exact calepinlaw06_first.mono _)
      | (with_reducible exact calepinref06_Fits.mono _ _)
      | (with_reducible exact calepinref06_Of.mono _ _ _)
      | (with_reducible exact calepinref06_Segment.mono _ _)
      | (with_reducible exact path_Of.mono _ _ _)
      | (with_reducible exact path_Parse.mono _ _)
      | (with_reducible exact LeO.refl _)
      | (with_reducible exact LeO.none _)
      | (with_reducible refine LeO.ite ?_ ?_)
      | (with_reducible refine LeO.bind ?_ (fun _ => ?_))
      | exact ih0 _ _ _
      | exact calepinlaw06_first.mono _
      | exact calepinref06_Fits.mono _ _
      | exact calepinref06_Of.mono _ _ _
      | exact calepinref06_Segment.mono _ _
      | exact path_Of.mono _ _ _
      | exact path_Parse.mono _ _
      | exact LeO.none _
      | refine LeO.ite ?_ ?_
      | refine LeO.bind ?_ (fun _ => ?_)
theorem calepinlaw06_PathMakes.mono : ∀ a0 a1 k, LeO (calepinlaw06_PathMakes.f k a0 a1) (calepinlaw06_PathMakes.f (k + 1) a0 a1) := by
  intro a0 a1 k
  have ih0 := calepinlaw06_PathMakes.mono_l k
  unfold calepinlaw06_PathMakes.f
  repeat' first
      | (with_reducible exact ih0 _ _ _)
      | (with_reducible exact calepinlaw06_first.mono _)
      | (with_reducible exact calepinref06_Fits.mono _ _)
      | (with_reducible exact calepinref06_Of.mono _ _ _)
      | (with_reducible exact calepinref06_Segment.mono _ _)
      | (with_reducible exact path_Of.mono _ _ _)
      | (with_reducible exact path_Parse.mono _ _)
      | (with_reducible exact LeO.refl _)
      | (with_reducible exact LeO.none _)
      | (with_reducible refine LeO.ite ?_ ?_)
      | (with_reducible refine LeO.bind ?_ (fun _ => ?_))
      | exact ih0 _ _ _
      | exact calepinlaw06_first.mono _
      | exact calepinref06_Fits.mono _ _
      | exact calepinref06_Of.mono _ _ _
      | exact calepinref06_Segment.mono _ _
      | exact path_Of.mono _ _ _
      | exact path_Parse.mono _ _
      | exact LeO.none _
      | refine LeO.ite ?_ ?_
      | refine LeO.bind ?_ (fun _ => ?_)
set_option maxHeartbeats 8000000 in
set_option maxRecDepth 100000 in
theorem calepinlaw06_PathMakes.calls (k : Nat) (a0 : ByteArray) (a1 : ByteArray) (r : Bool) (w : World) (hE : Env w) (h : calepinlaw06_PathMakes.f k a0 a1 = some r) :
    Calls Tryd.prog 3 #[.string a0, .string a1] w fun e w' => e = .returned (.bool r) ∧ Below w.heap.size w w' := by
  have HE := Aside0.mk hE
  clear hE
  have HB := Aside0.mk (Below.refl w.heap.size w)
  have H : ((calepinlaw06_first.f k).bind fun t176 => (if t176 = true then ((path_Segment.f a0).bind fun bt177 => ((calepinref06_Fits.f k a0).bind fun t179 => (if (t179 != (bt177.2 == 0)) = true then (calepinlaw06_PathMakes.j0 k a0 a1 true) else (if bt177.2 = 0 then ((calepinref06_Segment.f k a0).bind fun t180 => (if bt177.1.toList = t180.toList then (calepinlaw06_PathMakes.j0 k a0 a1 false) else (calepinlaw06_PathMakes.j0 k a0 a1 true))) else (if bt177.2 = 60 then (calepinlaw06_PathMakes.j0 k a0 a1 (bt177.1.toList != ([] : List UInt8))) else (calepinlaw06_PathMakes.j0 k a0 a1 true)))))) else (some false))) = some r := h
  clear h
  replace H := Option.bind_eq_some_iff.mp H
  obtain ⟨t176, A30, H⟩ := H
  replace H : (if t176 = true then ((path_Segment.f a0).bind fun bt177 => ((calepinref06_Fits.f k a0).bind fun t179 => (if (t179 != (bt177.2 == 0)) = true then (calepinlaw06_PathMakes.j0 k a0 a1 true) else (if bt177.2 = 0 then ((calepinref06_Segment.f k a0).bind fun t180 => (if bt177.1.toList = t180.toList then (calepinlaw06_PathMakes.j0 k a0 a1 false) else (calepinlaw06_PathMakes.j0 k a0 a1 true))) else (if bt177.2 = 60 then (calepinlaw06_PathMakes.j0 k a0 a1 (bt177.1.toList != ([] : List UInt8))) else (calepinlaw06_PathMakes.j0 k a0 a1 true)))))) else (some false)) = some r := H
  have A3 := Aside0.mk A30
  clear A30
  by_cases c4 : t176 = true
  · subst c4
    have H1 : ((path_Segment.f a0).bind fun bt177 => ((calepinref06_Fits.f k a0).bind fun t179 => (if (t179 != (bt177.2 == 0)) = true then (calepinlaw06_PathMakes.j0 k a0 a1 true) else (if bt177.2 = 0 then ((calepinref06_Segment.f k a0).bind fun t180 => (if bt177.1.toList = t180.toList then (calepinlaw06_PathMakes.j0 k a0 a1 false) else (calepinlaw06_PathMakes.j0 k a0 a1 true))) else (if bt177.2 = 60 then (calepinlaw06_PathMakes.j0 k a0 a1 (bt177.1.toList != ([] : List UInt8))) else (calepinlaw06_PathMakes.j0 k a0 a1 true)))))) = some r := by rw [if_pos rfl] at H; exact H
    clear H
    have H := H1
    clear H1
    replace H := Option.bind_eq_some_iff.mp H
    obtain ⟨⟨t177, t178⟩, A50, H⟩ := H
    replace H : ((calepinref06_Fits.f k a0).bind fun t179 => (if (t179 != (t178 == 0)) = true then (calepinlaw06_PathMakes.j0 k a0 a1 true) else (if t178 = 0 then ((calepinref06_Segment.f k a0).bind fun t180 => (if t177.toList = t180.toList then (calepinlaw06_PathMakes.j0 k a0 a1 false) else (calepinlaw06_PathMakes.j0 k a0 a1 true))) else (if t178 = 60 then (calepinlaw06_PathMakes.j0 k a0 a1 (t177.toList != ([] : List UInt8))) else (calepinlaw06_PathMakes.j0 k a0 a1 true))))) = some r := H
    have A5 := Aside0.mk A50
    clear A50
    have HC6 := Aside0.mk H
    clear H
    go_enter Tryd.func3, Tryd.ntmps3
    go_upto_region 4 with (first | ((with_reducible refine gate_callee (f := 7) rfl ?_); refine goesL_ (some 14) rfl rfl Tryd.func7 (by kernel_rfl) rfl #[] rfl (by (try simp only [List.map_toArray, List.map_cons, List.map_nil]); first | done | rfl | (simp only [List.length_drop, List.length_take]; rfl)) ?_; (with_reducible refine (calepinlaw06_first.calls k  true _ (env_at HE.out (by repeat (first | (with_reducible first | exact HB.out | apply below_alloc | apply pw_below_drewN | apply below_drew1) | exact HB.out))) A3.out).mono ?_); rintro e w7 ⟨rfl, hb⟩; refine ⟨_, rfl, ?_⟩; have n0_ := Aside0.mk (below_step (by repeat (first | (with_reducible first | exact HB.out | apply below_alloc | apply pw_below_drewN | apply below_drew1) | exact HB.out)) hb); clear HB; have HB := n0_; clear n0_; (try clear hb); (try clear hb2); (try clear hk); (try clear hi)) | ((with_reducible refine gate_callee (f := 8) rfl ?_); refine goesL_ (some 18) rfl rfl Tryd.func8 (by kernel_rfl) rfl #[.string a0] rfl (by (try simp only [List.map_toArray, List.map_cons, List.map_nil]); first | done | rfl | (simp only [List.length_drop, List.length_take]; rfl)) ?_; (with_reducible refine (path_Segment.calls a0 t177 t178 _ (env_at HE.out (by repeat (first | (with_reducible first | exact HB.out | apply below_alloc | apply pw_below_drewN | apply below_drew1) | exact HB.out))) A5.out).mono ?_); rintro e w8 ⟨rfl, hb⟩; refine ⟨_, rfl, ?_⟩; have n0_ := Aside0.mk (below_step (by repeat (first | (with_reducible first | exact HB.out | apply below_alloc | apply pw_below_drewN | apply below_drew1) | exact HB.out)) hb); clear HB; have HB := n0_; clear n0_; (try clear hb); (try clear hb2); (try clear hk); (try clear hi)))
    (try simp only [Act.put, List.setIfInBounds_toArray, List.set_cons_zero, List.set_cons_succ])
    go_cut [47] (fun v47 wc => ∃ (kq : Nat) (x47_5 : Bool), v47 = .bool x47_5 ∧ Aside0 (calepinlaw06_PathMakes.j0 kq a0 a1 x47_5 = some r) ∧ Aside0 (kq ≤ k) ∧ Aside0 (Below w.heap.size w wc))
    case first =>
      have H := HC6.out
      clear HC6
      replace H := Option.bind_eq_some_iff.mp H
      obtain ⟨t179, A90, H⟩ := H
      replace H : (if (t179 != (t178 == 0)) = true then (calepinlaw06_PathMakes.j0 k a0 a1 true) else (if t178 = 0 then ((calepinref06_Segment.f k a0).bind fun t180 => (if t177.toList = t180.toList then (calepinlaw06_PathMakes.j0 k a0 a1 false) else (calepinlaw06_PathMakes.j0 k a0 a1 true))) else (if t178 = 60 then (calepinlaw06_PathMakes.j0 k a0 a1 (t177.toList != ([] : List UInt8))) else (calepinlaw06_PathMakes.j0 k a0 a1 true)))) = some r := H
      have A9 := Aside0.mk A90
      clear A90
      by_cases c10 : (t179 != (t178 == 0)) = true
      · rw [if_pos c10] at H
        have c10b0 : (t179 != (t178 == 0)) = true := c10
        (try (have c10b1 : decide (t179 = (t178 == 0)) = false := by simpa using c10))
        (try (have c10b2 : (t179 == (t178 == 0)) = false := by simpa using c10))
        (try (have c10b3 : ¬ (t179 = (t178 == 0)) := by simpa using c10))
        clear c10
        (first | rw [c10b0] | (simp only [i64_w, i32_w]; rw [c10b0]) | skip)
        have H' := Aside0.mk H
        clear H
        go_wp2_with (first | ((with_reducible refine gate_callee (f := 9) rfl ?_); refine goesL_ (some 22) rfl rfl Tryd.func9 (by kernel_rfl) rfl #[.string a0] rfl (by (try simp only [List.map_toArray, List.map_cons, List.map_nil]); first | done | rfl | (simp only [List.length_drop, List.length_take]; rfl)) ?_; (with_reducible refine (calepinref06_Fits.calls k a0 t179 _ A9.out).mono ?_); rintro e w' ⟨rfl, ⟨nd, rfl⟩⟩; refine ⟨_, rfl, ?_⟩))
        go_meet
        case rel => exact ⟨_, (true), (by first | rfl | (simp; done) | (simp [*]; done) | (simp; exact isEmpty_ne)), H', ⟨by first | omega | exact Nat.le_refl _⟩, ⟨by repeat (first | (with_reducible first | exact HB.out | apply below_alloc | apply pw_below_drewN | apply below_drew1) | exact HB.out)⟩⟩
      · rw [if_neg c10] at H
        have c10b0 : (t179 != (t178 == 0)) = false := by simpa using c10
        (try (have c10b1 : decide (t179 = (t178 == 0)) = true := by simpa using c10))
        (try (have c10b2 : (t179 == (t178 == 0)) = true := by simpa using c10))
        clear c10
        (first | rw [c10b0] | (simp only [i64_w, i32_w]; rw [c10b0]) | skip)
        by_cases c11 : t178 = 0
        · rw [if_pos c11] at H
          have c11b0 : (t178 == 0) = true := beq_iff_eq.mpr c11
          have c11b1 : (t178 != 0) = false := bne_eq_false_iff_eq.mpr c11
          obtain rfl : t179 = true := by cases t179 with | true => rfl | false => rw [c11b0] at c10b0; cases c10b0
          clear c11
          replace H := Option.bind_eq_some_iff.mp H
          obtain ⟨t180, A120, H⟩ := H
          replace H : (if t177.toList = t180.toList then (calepinlaw06_PathMakes.j0 k a0 a1 false) else (calepinlaw06_PathMakes.j0 k a0 a1 true)) = some r := H
          have A12 := Aside0.mk A120
          clear A120
          by_cases c13 : t177.toList = t180.toList
          · rw [if_pos c13] at H
            have c13b0 : (t177.toList == t180.toList) = true := beq_iff_eq.mpr c13
            have c13b1 : (t177.toList != t180.toList) = false := bne_eq_false_iff_eq.mpr c13
            clear c13
            have H' := Aside0.mk H
            clear H
            go_wp2_with (first | ((with_reducible refine gate_callee (f := 9) rfl ?_); refine goesL_ (some 22) rfl rfl Tryd.func9 (by kernel_rfl) rfl #[.string a0] rfl (by (try simp only [List.map_toArray, List.map_cons, List.map_nil]); first | done | rfl | (simp only [List.length_drop, List.length_take]; rfl)) ?_; (with_reducible refine (calepinref06_Fits.calls k a0 true _ A9.out).mono ?_); rintro e w' ⟨rfl, ⟨nd, rfl⟩⟩; refine ⟨_, rfl, ?_⟩) | (go_at_call 10; (with_reducible refine (calepinref06_Segment.calls k a0 t180 _ A12.out).mono ?_); rintro e w' ⟨rfl, ⟨nd, rfl⟩⟩))
            go_meet
            case rel => exact ⟨_, (false), (by first | rfl | (simp; done) | (simp [*]; done) | (simp; exact isEmpty_ne)), H', ⟨by first | omega | exact Nat.le_refl _⟩, ⟨by repeat (first | (with_reducible first | exact HB.out | apply below_alloc | apply pw_below_drewN | apply below_drew1) | exact HB.out)⟩⟩
          · rw [if_neg c13] at H
            have c13b0 : (t177.toList == t180.toList) = false := beq_eq_false_iff_ne.mpr c13
            have c13b1 : (t177.toList != t180.toList) = true := bne_iff_ne.mpr c13
            have H' := Aside0.mk H
            clear H
            go_wp2_with (first | ((with_reducible refine gate_callee (f := 9) rfl ?_); refine goesL_ (some 22) rfl rfl Tryd.func9 (by kernel_rfl) rfl #[.string a0] rfl (by (try simp only [List.map_toArray, List.map_cons, List.map_nil]); first | done | rfl | (simp only [List.length_drop, List.length_take]; rfl)) ?_; (with_reducible refine (calepinref06_Fits.calls k a0 true _ A9.out).mono ?_); rintro e w' ⟨rfl, ⟨nd, rfl⟩⟩; refine ⟨_, rfl, ?_⟩) | (go_at_call 10; (with_reducible refine (calepinref06_Segment.calls k a0 t180 _ A12.out).mono ?_); rintro e w' ⟨rfl, ⟨nd, rfl⟩⟩))
            go_meet
            case rel => exact ⟨_, (true), (by first | rfl | (simp; done) | (simp [*]; done) | (simp; exact isEmpty_ne)), H', ⟨by first | omega | exact Nat.le_refl _⟩, ⟨by repeat (first | (with_reducible first | exact HB.out | apply below_alloc | apply pw_below_drewN | apply below_drew1) | exact HB.out)⟩⟩
        · rw [if_neg c11] at H
          have c11b0 : (t178 == 0) = false := beq_eq_false_iff_ne.mpr c11
          have c11b1 : (t178 != 0) = true := bne_iff_ne.mpr c11
          obtain rfl : t179 = false := by cases t179 with | false => rfl | true => rw [c11b0] at c10b0; cases c10b0
          by_cases c14 : t178 = 60
          · rw [if_pos c14] at H
            have c14b0 : (t178 == 60) = true := beq_iff_eq.mpr c14
            have c14b1 : (t178 != 60) = false := bne_eq_false_iff_eq.mpr c14
            clear c14
            have H' := Aside0.mk H
            clear H
            go_wp2_with (first | ((with_reducible refine gate_callee (f := 9) rfl ?_); refine goesL_ (some 22) rfl rfl Tryd.func9 (by kernel_rfl) rfl #[.string a0] rfl (by (try simp only [List.map_toArray, List.map_cons, List.map_nil]); first | done | rfl | (simp only [List.length_drop, List.length_take]; rfl)) ?_; (with_reducible refine (calepinref06_Fits.calls k a0 false _ A9.out).mono ?_); rintro e w' ⟨rfl, ⟨nd, rfl⟩⟩; refine ⟨_, rfl, ?_⟩))
            go_meet
            case rel => exact ⟨_, ((t177.toList != ([] : List UInt8))), (by first | rfl | (simp; done) | (simp [*]; done) | (simp; exact isEmpty_ne)), H', ⟨by first | omega | exact Nat.le_refl _⟩, ⟨by repeat (first | (with_reducible first | exact HB.out | apply below_alloc | apply pw_below_drewN | apply below_drew1) | exact HB.out)⟩⟩
          · rw [if_neg c14] at H
            have c14b0 : (t178 == 60) = false := beq_eq_false_iff_ne.mpr c14
            have c14b1 : (t178 != 60) = true := bne_iff_ne.mpr c14
            have H' := Aside0.mk H
            clear H
            go_wp2_with (first | ((with_reducible refine gate_callee (f := 9) rfl ?_); refine goesL_ (some 22) rfl rfl Tryd.func9 (by kernel_rfl) rfl #[.string a0] rfl (by (try simp only [List.map_toArray, List.map_cons, List.map_nil]); first | done | rfl | (simp only [List.length_drop, List.length_take]; rfl)) ?_; (with_reducible refine (calepinref06_Fits.calls k a0 false _ A9.out).mono ?_); rintro e w' ⟨rfl, ⟨nd, rfl⟩⟩; refine ⟨_, rfl, ?_⟩))
            go_meet
            case rel => exact ⟨_, (true), (by first | rfl | (simp; done) | (simp [*]; done) | (simp; exact isEmpty_ne)), H', ⟨by first | omega | exact Nat.le_refl _⟩, ⟨by repeat (first | (with_reducible first | exact HB.out | apply below_alloc | apply pw_below_drewN | apply below_drew1) | exact HB.out)⟩⟩
    case rest =>
      clear HC6
      try clear c1
      try clear p2
      try clear c3
      try clear c4
      try clear c7
      try clear c8
      try clear c9
      try clear c10
      try clear c10b0
      try clear c10b1
      try clear c10b2
      try clear c11
      try clear c11b0
      try clear c11b1
      try clear c13
      try clear c13b0
      try clear c13b1
      try clear c14
      try clear c14b0
      try clear c14b1
      obtain ⟨kq, x47_5, rfl, HA, HJ5, HB⟩ := hcut
      cases kq with
      | zero => exact absurd HA.out (by simp [calepinlaw06_PathMakes.j0])
      | succ kj5 =>
        have H := HA.out
        clear HA
        simp only [calepinlaw06_PathMakes.j0] at H
        by_cases c15 : x47_5 = true
        · subst c15
          have H1 : (some false) = some r := by rw [if_pos rfl] at H; exact H
          clear H
          have H := H1
          clear H1
          obtain rfl := Option.some.inj H
          go_wp2
          go_ret
          exact ⟨by first | rfl | (simp [errW_none, errW_some] <;> rfl) | (simp [*, errW_none, errW_some] <;> rfl), by repeat (first | (with_reducible first | exact HB.out | apply below_alloc | apply pw_below_drewN | apply below_drew1) | exact HB.out)⟩
        · replace c15 := Bool.eq_false_iff.mpr c15
          subst c15
          have H1 : ((path_Of.f kj5 a0 a1).bind fun bt181 => ((calepinref06_Of.f kj5 a0 a1).bind fun bt183 => (if bt183.2 = true then ((path_Parse.f kj5 bt181.1).bind fun bt185 => (if bt181.2 = 0 then (if bt181.1.toList = bt183.1.toList then (if bt185.2.2 = 0 then (if bt185.1.toList = a0.toList then (some (bt185.2.1.toList == a1.toList)) else (some false)) else (some false)) else (some false)) else (some false))) else (if bt181.2 = 60 then (some (bt181.1.toList == ([] : List UInt8))) else (some false))))) = some r := by rw [if_neg (show ¬ (false = true) by decide)] at H; exact H
          clear H
          have H := H1
          clear H1
          replace H := Option.bind_eq_some_iff.mp H
          obtain ⟨⟨t181, t182⟩, A160, H⟩ := H
          replace H : ((calepinref06_Of.f kj5 a0 a1).bind fun bt183 => (if bt183.2 = true then ((path_Parse.f kj5 t181).bind fun bt185 => (if t182 = 0 then (if t181.toList = bt183.1.toList then (if bt185.2.2 = 0 then (if bt185.1.toList = a0.toList then (some (bt185.2.1.toList == a1.toList)) else (some false)) else (some false)) else (some false)) else (some false))) else (if t182 = 60 then (some (t181.toList == ([] : List UInt8))) else (some false)))) = some r := H
          have A16 := Aside0.mk A160
          clear A160
          replace H := Option.bind_eq_some_iff.mp H
          obtain ⟨⟨t183, t184⟩, A170, H⟩ := H
          replace H : (if t184 = true then ((path_Parse.f kj5 t181).bind fun bt185 => (if t182 = 0 then (if t181.toList = t183.toList then (if bt185.2.2 = 0 then (if bt185.1.toList = a0.toList then (some (bt185.2.1.toList == a1.toList)) else (some false)) else (some false)) else (some false)) else (some false))) else (if t182 = 60 then (some (t181.toList == ([] : List UInt8))) else (some false))) = some r := H
          have A17 := Aside0.mk A170
          clear A170
          by_cases c18 : t184 = true
          · subst c18
            have H1 : ((path_Parse.f kj5 t181).bind fun bt185 => (if t182 = 0 then (if t181.toList = t183.toList then (if bt185.2.2 = 0 then (if bt185.1.toList = a0.toList then (some (bt185.2.1.toList == a1.toList)) else (some false)) else (some false)) else (some false)) else (some false))) = some r := by rw [if_pos rfl] at H; exact H
            clear H
            have H := H1
            clear H1
            replace H := Option.bind_eq_some_iff.mp H
            obtain ⟨⟨t185, t186, t187⟩, A190, H⟩ := H
            replace H : (if t182 = 0 then (if t181.toList = t183.toList then (if t187 = 0 then (if t185.toList = a0.toList then (some (t186.toList == a1.toList)) else (some false)) else (some false)) else (some false)) else (some false)) = some r := H
            have A19 := Aside0.mk A190
            clear A190
            by_cases c20 : t182 = 0
            · rw [if_pos c20] at H
              have c20b0 : (t182 == 0) = true := beq_iff_eq.mpr c20
              have c20b1 : (t182 != 0) = false := bne_eq_false_iff_eq.mpr c20
              clear c20
              by_cases c21 : t181.toList = t183.toList
              · rw [if_pos c21] at H
                have c21b0 : (t181.toList == t183.toList) = true := beq_iff_eq.mpr c21
                have c21b1 : (t181.toList != t183.toList) = false := bne_eq_false_iff_eq.mpr c21
                clear c21
                by_cases c22 : t187 = 0
                · rw [if_pos c22] at H
                  have c22b0 : (t187 == 0) = true := beq_iff_eq.mpr c22
                  have c22b1 : (t187 != 0) = false := bne_eq_false_iff_eq.mpr c22
                  clear c22
                  by_cases c23 : t185.toList = a0.toList
                  · rw [if_pos c23] at H
                    have c23b0 : (t185.toList == a0.toList) = true := beq_iff_eq.mpr c23
                    have c23b1 : (t185.toList != a0.toList) = false := bne_eq_false_iff_eq.mpr c23
                    clear c23
                    obtain rfl := Option.some.inj H
                    go_wp2_with (first | ((with_reducible refine gate_callee (f := 11) rfl ?_); refine goesL_ (some 51) rfl rfl Tryd.func11 (by kernel_rfl) rfl #[.string a0, .string a1] rfl (by (try simp only [List.map_toArray, List.map_cons, List.map_nil]); first | done | rfl | (simp only [List.length_drop, List.length_take]; rfl)) ?_; (with_reducible refine (path_Of.calls kj5 a0 a1 t181 t182 _ (env_at HE.out (by repeat (first | (with_reducible first | exact HB.out | apply below_alloc | apply pw_below_drewN | apply below_drew1) | exact HB.out))) A16.out).mono ?_); rintro e w24 ⟨rfl, hb⟩; refine ⟨_, rfl, ?_⟩; have n0_ := Aside0.mk (below_step (by repeat (first | (with_reducible first | exact HB.out | apply below_alloc | apply pw_below_drewN | apply below_drew1) | exact HB.out)) hb); clear HB; have HB := n0_; clear n0_; (try clear hb); (try clear hb2); (try clear hk); (try clear hi)) | ((with_reducible refine gate_callee (f := 12) rfl ?_); refine goesL_ (some 57) rfl rfl Tryd.func12 (by kernel_rfl) rfl #[.string a0, .string a1] rfl (by (try simp only [List.map_toArray, List.map_cons, List.map_nil]); first | done | rfl | (simp only [List.length_drop, List.length_take]; rfl)) ?_; (with_reducible refine (calepinref06_Of.calls kj5 a0 a1 t183 true _ A17.out).mono ?_); rintro e w' ⟨rfl, ⟨nd, rfl⟩⟩; refine ⟨_, rfl, ?_⟩) | ((with_reducible refine gate_callee (f := 13) rfl ?_); refine goesL_ (some 70) rfl rfl Tryd.func13 (by kernel_rfl) rfl #[.string t181] rfl (by (try simp only [List.map_toArray, List.map_cons, List.map_nil]); first | done | rfl | (simp only [List.length_drop, List.length_take]; rfl)) ?_; (with_reducible refine (path_Parse.calls kj5 t181 t185 t186 t187 _ (env_at HE.out (by repeat (first | (with_reducible first | exact HB.out | apply below_alloc | apply pw_below_drewN | apply below_drew1) | exact HB.out))) A19.out).mono ?_); rintro e w25 ⟨rfl, hb⟩; refine ⟨_, rfl, ?_⟩; have n0_ := Aside0.mk (below_step (by repeat (first | (with_reducible first | exact HB.out | apply below_alloc | apply pw_below_drewN | apply below_drew1) | exact HB.out)) hb); clear HB; have HB := n0_; clear n0_; (try clear hb); (try clear hb2); (try clear hk); (try clear hi)))
                    go_ret
                    exact ⟨by first | rfl | (simp [errW_none, errW_some] <;> rfl) | (simp [*, errW_none, errW_some] <;> rfl), by repeat (first | (with_reducible first | exact HB.out | apply below_alloc | apply pw_below_drewN | apply below_drew1) | exact HB.out)⟩
                  · rw [if_neg c23] at H
                    have c23b0 : (t185.toList == a0.toList) = false := beq_eq_false_iff_ne.mpr c23
                    have c23b1 : (t185.toList != a0.toList) = true := bne_iff_ne.mpr c23
                    obtain rfl := Option.some.inj H
                    go_wp2_with (first | ((with_reducible refine gate_callee (f := 11) rfl ?_); refine goesL_ (some 51) rfl rfl Tryd.func11 (by kernel_rfl) rfl #[.string a0, .string a1] rfl (by (try simp only [List.map_toArray, List.map_cons, List.map_nil]); first | done | rfl | (simp only [List.length_drop, List.length_take]; rfl)) ?_; (with_reducible refine (path_Of.calls kj5 a0 a1 t181 t182 _ (env_at HE.out (by repeat (first | (with_reducible first | exact HB.out | apply below_alloc | apply pw_below_drewN | apply below_drew1) | exact HB.out))) A16.out).mono ?_); rintro e w26 ⟨rfl, hb⟩; refine ⟨_, rfl, ?_⟩; have n0_ := Aside0.mk (below_step (by repeat (first | (with_reducible first | exact HB.out | apply below_alloc | apply pw_below_drewN | apply below_drew1) | exact HB.out)) hb); clear HB; have HB := n0_; clear n0_; (try clear hb); (try clear hb2); (try clear hk); (try clear hi)) | ((with_reducible refine gate_callee (f := 12) rfl ?_); refine goesL_ (some 57) rfl rfl Tryd.func12 (by kernel_rfl) rfl #[.string a0, .string a1] rfl (by (try simp only [List.map_toArray, List.map_cons, List.map_nil]); first | done | rfl | (simp only [List.length_drop, List.length_take]; rfl)) ?_; (with_reducible refine (calepinref06_Of.calls kj5 a0 a1 t183 true _ A17.out).mono ?_); rintro e w' ⟨rfl, ⟨nd, rfl⟩⟩; refine ⟨_, rfl, ?_⟩) | ((with_reducible refine gate_callee (f := 13) rfl ?_); refine goesL_ (some 70) rfl rfl Tryd.func13 (by kernel_rfl) rfl #[.string t181] rfl (by (try simp only [List.map_toArray, List.map_cons, List.map_nil]); first | done | rfl | (simp only [List.length_drop, List.length_take]; rfl)) ?_; (with_reducible refine (path_Parse.calls kj5 t181 t185 t186 t187 _ (env_at HE.out (by repeat (first | (with_reducible first | exact HB.out | apply below_alloc | apply pw_below_drewN | apply below_drew1) | exact HB.out))) A19.out).mono ?_); rintro e w27 ⟨rfl, hb⟩; refine ⟨_, rfl, ?_⟩; have n0_ := Aside0.mk (below_step (by repeat (first | (with_reducible first | exact HB.out | apply below_alloc | apply pw_below_drewN | apply below_drew1) | exact HB.out)) hb); clear HB; have HB := n0_; clear n0_; (try clear hb); (try clear hb2); (try clear hk); (try clear hi)))
                    go_ret
                    exact ⟨by first | rfl | (simp [errW_none, errW_some] <;> rfl) | (simp [*, errW_none, errW_some] <;> rfl), by repeat (first | (with_reducible first | exact HB.out | apply below_alloc | apply pw_below_drewN | apply below_drew1) | exact HB.out)⟩
                · rw [if_neg c22] at H
                  have c22b0 : (t187 == 0) = false := beq_eq_false_iff_ne.mpr c22
                  have c22b1 : (t187 != 0) = true := bne_iff_ne.mpr c22
                  obtain rfl := Option.some.inj H
                  go_wp2_with (first | ((with_reducible refine gate_callee (f := 11) rfl ?_); refine goesL_ (some 51) rfl rfl Tryd.func11 (by kernel_rfl) rfl #[.string a0, .string a1] rfl (by (try simp only [List.map_toArray, List.map_cons, List.map_nil]); first | done | rfl | (simp only [List.length_drop, List.length_take]; rfl)) ?_; (with_reducible refine (path_Of.calls kj5 a0 a1 t181 t182 _ (env_at HE.out (by repeat (first | (with_reducible first | exact HB.out | apply below_alloc | apply pw_below_drewN | apply below_drew1) | exact HB.out))) A16.out).mono ?_); rintro e w28 ⟨rfl, hb⟩; refine ⟨_, rfl, ?_⟩; have n0_ := Aside0.mk (below_step (by repeat (first | (with_reducible first | exact HB.out | apply below_alloc | apply pw_below_drewN | apply below_drew1) | exact HB.out)) hb); clear HB; have HB := n0_; clear n0_; (try clear hb); (try clear hb2); (try clear hk); (try clear hi)) | ((with_reducible refine gate_callee (f := 12) rfl ?_); refine goesL_ (some 57) rfl rfl Tryd.func12 (by kernel_rfl) rfl #[.string a0, .string a1] rfl (by (try simp only [List.map_toArray, List.map_cons, List.map_nil]); first | done | rfl | (simp only [List.length_drop, List.length_take]; rfl)) ?_; (with_reducible refine (calepinref06_Of.calls kj5 a0 a1 t183 true _ A17.out).mono ?_); rintro e w' ⟨rfl, ⟨nd, rfl⟩⟩; refine ⟨_, rfl, ?_⟩) | ((with_reducible refine gate_callee (f := 13) rfl ?_); refine goesL_ (some 70) rfl rfl Tryd.func13 (by kernel_rfl) rfl #[.string t181] rfl (by (try simp only [List.map_toArray, List.map_cons, List.map_nil]); first | done | rfl | (simp only [List.length_drop, List.length_take]; rfl)) ?_; (with_reducible refine (path_Parse.calls kj5 t181 t185 t186 t187 _ (env_at HE.out (by repeat (first | (with_reducible first | exact HB.out | apply below_alloc | apply pw_below_drewN | apply below_drew1) | exact HB.out))) A19.out).mono ?_); rintro e w29 ⟨rfl, hb⟩; refine ⟨_, rfl, ?_⟩; have n0_ := Aside0.mk (below_step (by repeat (first | (with_reducible first | exact HB.out | apply below_alloc | apply pw_below_drewN | apply below_drew1) | exact HB.out)) hb); clear HB; have HB := n0_; clear n0_; (try clear hb); (try clear hb2); (try clear hk); (try clear hi)))
                  go_ret
                  exact ⟨by first | rfl | (simp [errW_none, errW_some] <;> rfl) | (simp [*, errW_none, errW_some] <;> rfl), by repeat (first | (with_reducible first | exact HB.out | apply below_alloc | apply pw_below_drewN | apply below_drew1) | exact HB.out)⟩
              · rw [if_neg c21] at H
                have c21b0 : (t181.toList == t183.toList) = false := beq_eq_false_iff_ne.mpr c21
                have c21b1 : (t181.toList != t183.toList) = true := bne_iff_ne.mpr c21
                obtain rfl := Option.some.inj H
                go_wp2_with (first | ((with_reducible refine gate_callee (f := 11) rfl ?_); refine goesL_ (some 51) rfl rfl Tryd.func11 (by kernel_rfl) rfl #[.string a0, .string a1] rfl (by (try simp only [List.map_toArray, List.map_cons, List.map_nil]); first | done | rfl | (simp only [List.length_drop, List.length_take]; rfl)) ?_; (with_reducible refine (path_Of.calls kj5 a0 a1 t181 t182 _ (env_at HE.out (by repeat (first | (with_reducible first | exact HB.out | apply below_alloc | apply pw_below_drewN | apply below_drew1) | exact HB.out))) A16.out).mono ?_); rintro e w30 ⟨rfl, hb⟩; refine ⟨_, rfl, ?_⟩; have n0_ := Aside0.mk (below_step (by repeat (first | (with_reducible first | exact HB.out | apply below_alloc | apply pw_below_drewN | apply below_drew1) | exact HB.out)) hb); clear HB; have HB := n0_; clear n0_; (try clear hb); (try clear hb2); (try clear hk); (try clear hi)) | ((with_reducible refine gate_callee (f := 12) rfl ?_); refine goesL_ (some 57) rfl rfl Tryd.func12 (by kernel_rfl) rfl #[.string a0, .string a1] rfl (by (try simp only [List.map_toArray, List.map_cons, List.map_nil]); first | done | rfl | (simp only [List.length_drop, List.length_take]; rfl)) ?_; (with_reducible refine (calepinref06_Of.calls kj5 a0 a1 t183 true _ A17.out).mono ?_); rintro e w' ⟨rfl, ⟨nd, rfl⟩⟩; refine ⟨_, rfl, ?_⟩) | ((with_reducible refine gate_callee (f := 13) rfl ?_); refine goesL_ (some 70) rfl rfl Tryd.func13 (by kernel_rfl) rfl #[.string t181] rfl (by (try simp only [List.map_toArray, List.map_cons, List.map_nil]); first | done | rfl | (simp only [List.length_drop, List.length_take]; rfl)) ?_; (with_reducible refine (path_Parse.calls kj5 t181 t185 t186 t187 _ (env_at HE.out (by repeat (first | (with_reducible first | exact HB.out | apply below_alloc | apply pw_below_drewN | apply below_drew1) | exact HB.out))) A19.out).mono ?_); rintro e w31 ⟨rfl, hb⟩; refine ⟨_, rfl, ?_⟩; have n0_ := Aside0.mk (below_step (by repeat (first | (with_reducible first | exact HB.out | apply below_alloc | apply pw_below_drewN | apply below_drew1) | exact HB.out)) hb); clear HB; have HB := n0_; clear n0_; (try clear hb); (try clear hb2); (try clear hk); (try clear hi)))
                go_ret
                exact ⟨by first | rfl | (simp [errW_none, errW_some] <;> rfl) | (simp [*, errW_none, errW_some] <;> rfl), by repeat (first | (with_reducible first | exact HB.out | apply below_alloc | apply pw_below_drewN | apply below_drew1) | exact HB.out)⟩
            · rw [if_neg c20] at H
              have c20b0 : (t182 == 0) = false := beq_eq_false_iff_ne.mpr c20
              have c20b1 : (t182 != 0) = true := bne_iff_ne.mpr c20
              obtain rfl := Option.some.inj H
              go_wp2_with (first | ((with_reducible refine gate_callee (f := 11) rfl ?_); refine goesL_ (some 51) rfl rfl Tryd.func11 (by kernel_rfl) rfl #[.string a0, .string a1] rfl (by (try simp only [List.map_toArray, List.map_cons, List.map_nil]); first | done | rfl | (simp only [List.length_drop, List.length_take]; rfl)) ?_; (with_reducible refine (path_Of.calls kj5 a0 a1 t181 t182 _ (env_at HE.out (by repeat (first | (with_reducible first | exact HB.out | apply below_alloc | apply pw_below_drewN | apply below_drew1) | exact HB.out))) A16.out).mono ?_); rintro e w32 ⟨rfl, hb⟩; refine ⟨_, rfl, ?_⟩; have n0_ := Aside0.mk (below_step (by repeat (first | (with_reducible first | exact HB.out | apply below_alloc | apply pw_below_drewN | apply below_drew1) | exact HB.out)) hb); clear HB; have HB := n0_; clear n0_; (try clear hb); (try clear hb2); (try clear hk); (try clear hi)) | ((with_reducible refine gate_callee (f := 12) rfl ?_); refine goesL_ (some 57) rfl rfl Tryd.func12 (by kernel_rfl) rfl #[.string a0, .string a1] rfl (by (try simp only [List.map_toArray, List.map_cons, List.map_nil]); first | done | rfl | (simp only [List.length_drop, List.length_take]; rfl)) ?_; (with_reducible refine (calepinref06_Of.calls kj5 a0 a1 t183 true _ A17.out).mono ?_); rintro e w' ⟨rfl, ⟨nd, rfl⟩⟩; refine ⟨_, rfl, ?_⟩) | ((with_reducible refine gate_callee (f := 13) rfl ?_); refine goesL_ (some 70) rfl rfl Tryd.func13 (by kernel_rfl) rfl #[.string t181] rfl (by (try simp only [List.map_toArray, List.map_cons, List.map_nil]); first | done | rfl | (simp only [List.length_drop, List.length_take]; rfl)) ?_; (with_reducible refine (path_Parse.calls kj5 t181 t185 t186 t187 _ (env_at HE.out (by repeat (first | (with_reducible first | exact HB.out | apply below_alloc | apply pw_below_drewN | apply below_drew1) | exact HB.out))) A19.out).mono ?_); rintro e w33 ⟨rfl, hb⟩; refine ⟨_, rfl, ?_⟩; have n0_ := Aside0.mk (below_step (by repeat (first | (with_reducible first | exact HB.out | apply below_alloc | apply pw_below_drewN | apply below_drew1) | exact HB.out)) hb); clear HB; have HB := n0_; clear n0_; (try clear hb); (try clear hb2); (try clear hk); (try clear hi)))
              go_ret
              exact ⟨by first | rfl | (simp [errW_none, errW_some] <;> rfl) | (simp [*, errW_none, errW_some] <;> rfl), by repeat (first | (with_reducible first | exact HB.out | apply below_alloc | apply pw_below_drewN | apply below_drew1) | exact HB.out)⟩
          · replace c18 := Bool.eq_false_iff.mpr c18
            subst c18
            have H1 : (if t182 = 60 then (some (t181.toList == ([] : List UInt8))) else (some false)) = some r := by rw [if_neg (show ¬ (false = true) by decide)] at H; exact H
            clear H
            have H := H1
            clear H1
            by_cases c34 : t182 = 60
            · rw [if_pos c34] at H
              have c34b0 : (t182 == 60) = true := beq_iff_eq.mpr c34
              have c34b1 : (t182 != 60) = false := bne_eq_false_iff_eq.mpr c34
              clear c34
              obtain rfl := Option.some.inj H
              go_wp2_with (first | ((with_reducible refine gate_callee (f := 11) rfl ?_); refine goesL_ (some 51) rfl rfl Tryd.func11 (by kernel_rfl) rfl #[.string a0, .string a1] rfl (by (try simp only [List.map_toArray, List.map_cons, List.map_nil]); first | done | rfl | (simp only [List.length_drop, List.length_take]; rfl)) ?_; (with_reducible refine (path_Of.calls kj5 a0 a1 t181 t182 _ (env_at HE.out (by repeat (first | (with_reducible first | exact HB.out | apply below_alloc | apply pw_below_drewN | apply below_drew1) | exact HB.out))) A16.out).mono ?_); rintro e w35 ⟨rfl, hb⟩; refine ⟨_, rfl, ?_⟩; have n0_ := Aside0.mk (below_step (by repeat (first | (with_reducible first | exact HB.out | apply below_alloc | apply pw_below_drewN | apply below_drew1) | exact HB.out)) hb); clear HB; have HB := n0_; clear n0_; (try clear hb); (try clear hb2); (try clear hk); (try clear hi)) | ((with_reducible refine gate_callee (f := 12) rfl ?_); refine goesL_ (some 57) rfl rfl Tryd.func12 (by kernel_rfl) rfl #[.string a0, .string a1] rfl (by (try simp only [List.map_toArray, List.map_cons, List.map_nil]); first | done | rfl | (simp only [List.length_drop, List.length_take]; rfl)) ?_; (with_reducible refine (calepinref06_Of.calls kj5 a0 a1 t183 false _ A17.out).mono ?_); rintro e w' ⟨rfl, ⟨nd, rfl⟩⟩; refine ⟨_, rfl, ?_⟩))
              go_ret
              exact ⟨by first | rfl | (simp [errW_none, errW_some] <;> rfl) | (simp [*, errW_none, errW_some] <;> rfl), by repeat (first | (with_reducible first | exact HB.out | apply below_alloc | apply pw_below_drewN | apply below_drew1) | exact HB.out)⟩
            · rw [if_neg c34] at H
              have c34b0 : (t182 == 60) = false := beq_eq_false_iff_ne.mpr c34
              have c34b1 : (t182 != 60) = true := bne_iff_ne.mpr c34
              obtain rfl := Option.some.inj H
              go_wp2_with (first | ((with_reducible refine gate_callee (f := 11) rfl ?_); refine goesL_ (some 51) rfl rfl Tryd.func11 (by kernel_rfl) rfl #[.string a0, .string a1] rfl (by (try simp only [List.map_toArray, List.map_cons, List.map_nil]); first | done | rfl | (simp only [List.length_drop, List.length_take]; rfl)) ?_; (with_reducible refine (path_Of.calls kj5 a0 a1 t181 t182 _ (env_at HE.out (by repeat (first | (with_reducible first | exact HB.out | apply below_alloc | apply pw_below_drewN | apply below_drew1) | exact HB.out))) A16.out).mono ?_); rintro e w36 ⟨rfl, hb⟩; refine ⟨_, rfl, ?_⟩; have n0_ := Aside0.mk (below_step (by repeat (first | (with_reducible first | exact HB.out | apply below_alloc | apply pw_below_drewN | apply below_drew1) | exact HB.out)) hb); clear HB; have HB := n0_; clear n0_; (try clear hb); (try clear hb2); (try clear hk); (try clear hi)) | ((with_reducible refine gate_callee (f := 12) rfl ?_); refine goesL_ (some 57) rfl rfl Tryd.func12 (by kernel_rfl) rfl #[.string a0, .string a1] rfl (by (try simp only [List.map_toArray, List.map_cons, List.map_nil]); first | done | rfl | (simp only [List.length_drop, List.length_take]; rfl)) ?_; (with_reducible refine (calepinref06_Of.calls kj5 a0 a1 t183 false _ A17.out).mono ?_); rintro e w' ⟨rfl, ⟨nd, rfl⟩⟩; refine ⟨_, rfl, ?_⟩))
              go_ret
              exact ⟨by first | rfl | (simp [errW_none, errW_some] <;> rfl) | (simp [*, errW_none, errW_some] <;> rfl), by repeat (first | (with_reducible first | exact HB.out | apply below_alloc | apply pw_below_drewN | apply below_drew1) | exact HB.out)⟩
  · replace c4 := Bool.eq_false_iff.mpr c4
    subst c4
    have H1 : (some false) = some r := by rw [if_neg (show ¬ (false = true) by decide)] at H; exact H
    clear H
    have H := H1
    clear H1
    obtain rfl := Option.some.inj H
    go_enter Tryd.func3, Tryd.ntmps3
    go_wp2_with (first | ((with_reducible refine gate_callee (f := 7) rfl ?_); refine goesL_ (some 14) rfl rfl Tryd.func7 (by kernel_rfl) rfl #[] rfl (by (try simp only [List.map_toArray, List.map_cons, List.map_nil]); first | done | rfl | (simp only [List.length_drop, List.length_take]; rfl)) ?_; (with_reducible refine (calepinlaw06_first.calls k  false _ (env_at HE.out (by repeat (first | (with_reducible first | exact HB.out | apply below_alloc | apply pw_below_drewN | apply below_drew1) | exact HB.out))) A3.out).mono ?_); rintro e w37 ⟨rfl, hb⟩; refine ⟨_, rfl, ?_⟩; have n0_ := Aside0.mk (below_step (by repeat (first | (with_reducible first | exact HB.out | apply below_alloc | apply pw_below_drewN | apply below_drew1) | exact HB.out)) hb); clear HB; have HB := n0_; clear n0_; (try clear hb); (try clear hb2); (try clear hk); (try clear hi)))
    go_ret
    exact ⟨by first | rfl | (simp [errW_none, errW_some] <;> rfl) | (simp [*, errW_none, errW_some] <;> rfl), by repeat (first | (with_reducible first | exact HB.out | apply below_alloc | apply pw_below_drewN | apply below_drew1) | exact HB.out)⟩

end Go.Proofs.YtpifopiopgbbaaaDoor.Pf
