-- Written by a program of this session (wip/extprint.py) over the kit's print. Not trusted: Lean checks it.
import Derived.Test.YtpifopiopgbbaaaDoorPax0
namespace Go.Proofs.YtpifopiopgbbaaaDoor.Pa
open Go.RowKit Go.Proofs.YtpifopiopgbbaaaDoorW.PrintWords Go.Proofs.YtpifopiopgbbaaaDoorW.PrintLast Go.Proofs.YtpifopiopgbbaaaDoorW.PrintMore
attribute [local go_sem] max2_int min2_int max_two min_two max_three min_three max_four min_four   -- for this text's walks alone
set_option linter.unusedVariables false
set_option linter.unusedSimpArgs false

/-! ### char_control: function 34 -/
def char_control.f (a0 : Int) : Option (Bool) := if a0 < 32 then (if a0 = 9 then (some (a0 == 127)) else (if a0 = 10 then (some (a0 == 127)) else (if a0 = 13 then (some (a0 == 127)) else (some true)))) else (some (a0 == 127))
set_option maxHeartbeats 8000000 in
set_option maxRecDepth 100000 in
theorem char_control.calls (a0 : Int) (r : Bool) (w : World) (h : char_control.f a0 = some r) :
    Calls Tryd.prog 34 #[.int .i32 a0] w fun e w' => e = .returned (.bool r) ∧ Drawn0 w w' := by
  have H : (if a0 < 32 then (if a0 = 9 then (some (a0 == 127)) else (if a0 = 10 then (some (a0 == 127)) else (if a0 = 13 then (some (a0 == 127)) else (some true)))) else (some (a0 == 127))) = some r := h
  clear h
  by_cases c2 : a0 < 32
  · rw [if_pos c2] at H
    have c2b0 : decide (a0 < 32) = true := decide_eq_true c2
    clear c2
    by_cases c3 : a0 = 9
    · rw [if_pos c3] at H
      have c3b0 : (a0 == 9) = true := beq_iff_eq.mpr c3
      have c3b1 : (a0 != 9) = false := bne_eq_false_iff_eq.mpr c3
      clear c3
      obtain rfl := Option.some.inj H
      go_enter Tryd.func34, Tryd.ntmps34
      go_wp2
      go_ret
      exact ⟨by first | rfl | (simp; done) | (simp [*]; done), by repeat (first | exact Drawn0.refl _ | apply Drawn0.step)⟩
    · rw [if_neg c3] at H
      have c3b0 : (a0 == 9) = false := beq_eq_false_iff_ne.mpr c3
      have c3b1 : (a0 != 9) = true := bne_iff_ne.mpr c3
      by_cases c4 : a0 = 10
      · rw [if_pos c4] at H
        have c4b0 : (a0 == 10) = true := beq_iff_eq.mpr c4
        have c4b1 : (a0 != 10) = false := bne_eq_false_iff_eq.mpr c4
        clear c4
        obtain rfl := Option.some.inj H
        go_enter Tryd.func34, Tryd.ntmps34
        go_wp2
        go_ret
        exact ⟨by first | rfl | (simp; done) | (simp [*]; done), by repeat (first | exact Drawn0.refl _ | apply Drawn0.step)⟩
      · rw [if_neg c4] at H
        have c4b0 : (a0 == 10) = false := beq_eq_false_iff_ne.mpr c4
        have c4b1 : (a0 != 10) = true := bne_iff_ne.mpr c4
        by_cases c5 : a0 = 13
        · rw [if_pos c5] at H
          have c5b0 : (a0 == 13) = true := beq_iff_eq.mpr c5
          have c5b1 : (a0 != 13) = false := bne_eq_false_iff_eq.mpr c5
          clear c5
          obtain rfl := Option.some.inj H
          go_enter Tryd.func34, Tryd.ntmps34
          go_wp2
          go_ret
          exact ⟨by first | rfl | (simp; done) | (simp [*]; done), by repeat (first | exact Drawn0.refl _ | apply Drawn0.step)⟩
        · rw [if_neg c5] at H
          have c5b0 : (a0 == 13) = false := beq_eq_false_iff_ne.mpr c5
          have c5b1 : (a0 != 13) = true := bne_iff_ne.mpr c5
          obtain rfl := Option.some.inj H
          go_enter Tryd.func34, Tryd.ntmps34
          go_wp2
          go_ret
          exact ⟨by first | rfl | (simp; done) | (simp [*]; done), by repeat (first | exact Drawn0.refl _ | apply Drawn0.step)⟩
  · rw [if_neg c2] at H
    have c2b0 : decide (a0 < 32) = false := decide_eq_false c2
    clear c2
    obtain rfl := Option.some.inj H
    go_enter Tryd.func34, Tryd.ntmps34
    go_wp2
    go_ret
    exact ⟨by first | rfl | (simp; done) | (simp [*]; done), by repeat (first | exact Drawn0.refl _ | apply Drawn0.step)⟩

-- function 26 (strings_IndexByte): its contract is proved in YtpifopiopgbbaaaDoorExt

/-! ### path_plain: function 17 -/
def path_plain.f (a0 : Int) : Option (Bool) := if a0 ≥ 97 then (if a0 ≤ 122 then (some true) else (if a0 ≥ 65 then (if a0 ≤ 90 then (some true) else (if a0 ≥ 48 then (if a0 ≤ 57 then (some true) else ((strings_IndexByte.f (⟨#[45, 46, 95, 126]⟩ : ByteArray) a0).bind fun t101 => (some (decide (t101 ≥ 0))))) else ((strings_IndexByte.f (⟨#[45, 46, 95, 126]⟩ : ByteArray) a0).bind fun t102 => (some (decide (t102 ≥ 0)))))) else (if a0 ≥ 48 then (if a0 ≤ 57 then (some true) else ((strings_IndexByte.f (⟨#[45, 46, 95, 126]⟩ : ByteArray) a0).bind fun t103 => (some (decide (t103 ≥ 0))))) else ((strings_IndexByte.f (⟨#[45, 46, 95, 126]⟩ : ByteArray) a0).bind fun t104 => (some (decide (t104 ≥ 0))))))) else (if a0 ≥ 65 then (if a0 ≤ 90 then (some true) else (if a0 ≥ 48 then (if a0 ≤ 57 then (some true) else ((strings_IndexByte.f (⟨#[45, 46, 95, 126]⟩ : ByteArray) a0).bind fun t105 => (some (decide (t105 ≥ 0))))) else ((strings_IndexByte.f (⟨#[45, 46, 95, 126]⟩ : ByteArray) a0).bind fun t106 => (some (decide (t106 ≥ 0)))))) else (if a0 ≥ 48 then (if a0 ≤ 57 then (some true) else ((strings_IndexByte.f (⟨#[45, 46, 95, 126]⟩ : ByteArray) a0).bind fun t107 => (some (decide (t107 ≥ 0))))) else ((strings_IndexByte.f (⟨#[45, 46, 95, 126]⟩ : ByteArray) a0).bind fun t108 => (some (decide (t108 ≥ 0))))))
set_option maxHeartbeats 8000000 in
set_option maxRecDepth 100000 in
theorem path_plain.calls (a0 : Int) (r : Bool) (w : World) (h : path_plain.f a0 = some r) :
    Calls Tryd.prog 17 #[.int .u8 a0] w fun e w' => e = .returned (.bool r) ∧ Below w.heap.size w w' := by
  have HB := Aside0.mk (Below.refl w.heap.size w)
  have H : (if a0 ≥ 97 then (if a0 ≤ 122 then (some true) else (if a0 ≥ 65 then (if a0 ≤ 90 then (some true) else (if a0 ≥ 48 then (if a0 ≤ 57 then (some true) else ((strings_IndexByte.f (⟨#[45, 46, 95, 126]⟩ : ByteArray) a0).bind fun t101 => (some (decide (t101 ≥ 0))))) else ((strings_IndexByte.f (⟨#[45, 46, 95, 126]⟩ : ByteArray) a0).bind fun t102 => (some (decide (t102 ≥ 0)))))) else (if a0 ≥ 48 then (if a0 ≤ 57 then (some true) else ((strings_IndexByte.f (⟨#[45, 46, 95, 126]⟩ : ByteArray) a0).bind fun t103 => (some (decide (t103 ≥ 0))))) else ((strings_IndexByte.f (⟨#[45, 46, 95, 126]⟩ : ByteArray) a0).bind fun t104 => (some (decide (t104 ≥ 0))))))) else (if a0 ≥ 65 then (if a0 ≤ 90 then (some true) else (if a0 ≥ 48 then (if a0 ≤ 57 then (some true) else ((strings_IndexByte.f (⟨#[45, 46, 95, 126]⟩ : ByteArray) a0).bind fun t105 => (some (decide (t105 ≥ 0))))) else ((strings_IndexByte.f (⟨#[45, 46, 95, 126]⟩ : ByteArray) a0).bind fun t106 => (some (decide (t106 ≥ 0)))))) else (if a0 ≥ 48 then (if a0 ≤ 57 then (some true) else ((strings_IndexByte.f (⟨#[45, 46, 95, 126]⟩ : ByteArray) a0).bind fun t107 => (some (decide (t107 ≥ 0))))) else ((strings_IndexByte.f (⟨#[45, 46, 95, 126]⟩ : ByteArray) a0).bind fun t108 => (some (decide (t108 ≥ 0))))))) = some r := h
  clear h
  by_cases c2 : a0 ≥ 97
  · rw [if_pos c2] at H
    have c2b0 : decide (97 ≤ a0) = true := decide_eq_true c2
    clear c2
    by_cases c3 : a0 ≤ 122
    · rw [if_pos c3] at H
      have c3b0 : decide (a0 ≤ 122) = true := decide_eq_true c3
      clear c3
      obtain rfl := Option.some.inj H
      go_enter Tryd.func17, Tryd.ntmps17
      go_wp2
      go_ret
      exact ⟨by first | rfl | (simp [errW_none, errW_some] <;> rfl) | (simp [*, errW_none, errW_some] <;> rfl), by repeat (first | (with_reducible first | exact HB.out | apply below_alloc | apply pw_below_drewN | apply below_drew1) | exact HB.out)⟩
    · rw [if_neg c3] at H
      have c3b0 : decide (a0 ≤ 122) = false := decide_eq_false c3
      clear c3
      by_cases c4 : a0 ≥ 65
      · rw [if_pos c4] at H
        have c4b0 : decide (65 ≤ a0) = true := decide_eq_true c4
        clear c4
        by_cases c5 : a0 ≤ 90
        · rw [if_pos c5] at H
          have c5b0 : decide (a0 ≤ 90) = true := decide_eq_true c5
          clear c5
          obtain rfl := Option.some.inj H
          go_enter Tryd.func17, Tryd.ntmps17
          go_wp2
          go_ret
          exact ⟨by first | rfl | (simp [errW_none, errW_some] <;> rfl) | (simp [*, errW_none, errW_some] <;> rfl), by repeat (first | (with_reducible first | exact HB.out | apply below_alloc | apply pw_below_drewN | apply below_drew1) | exact HB.out)⟩
        · rw [if_neg c5] at H
          have c5b0 : decide (a0 ≤ 90) = false := decide_eq_false c5
          clear c5
          by_cases c6 : a0 ≥ 48
          · rw [if_pos c6] at H
            have c6b0 : decide (48 ≤ a0) = true := decide_eq_true c6
            clear c6
            by_cases c7 : a0 ≤ 57
            · rw [if_pos c7] at H
              have c7b0 : decide (a0 ≤ 57) = true := decide_eq_true c7
              clear c7
              obtain rfl := Option.some.inj H
              go_enter Tryd.func17, Tryd.ntmps17
              go_wp2
              go_ret
              exact ⟨by first | rfl | (simp [errW_none, errW_some] <;> rfl) | (simp [*, errW_none, errW_some] <;> rfl), by repeat (first | (with_reducible first | exact HB.out | apply below_alloc | apply pw_below_drewN | apply below_drew1) | exact HB.out)⟩
            · rw [if_neg c7] at H
              have c7b0 : decide (a0 ≤ 57) = false := decide_eq_false c7
              clear c7
              replace H := Option.bind_eq_some_iff.mp H
              obtain ⟨t101, A80, H⟩ := H
              replace H : (some (decide (t101 ≥ 0))) = some r := H
              have A8 := Aside0.mk A80
              clear A80
              obtain rfl := Option.some.inj H
              go_enter Tryd.func17, Tryd.ntmps17
              go_wp2_with (first | (go_at_call 26; (with_reducible refine (strings_IndexByte.calls (⟨#[45, 46, 95, 126]⟩ : ByteArray) a0 t101 _ A8.out).mono ?_); rintro e w9 ⟨rfl, hb⟩; have n0_ := Aside0.mk (below_step (by repeat (first | (with_reducible first | exact HB.out | apply below_alloc | apply pw_below_drewN | apply below_drew1) | exact HB.out)) hb); clear HB; have HB := n0_; clear n0_; (try clear hb); (try clear hb2); (try clear hk); (try clear hi)))
              go_ret
              exact ⟨by first | rfl | (simp [errW_none, errW_some] <;> rfl) | (simp [*, errW_none, errW_some] <;> rfl), by repeat (first | (with_reducible first | exact HB.out | apply below_alloc | apply pw_below_drewN | apply below_drew1) | exact HB.out)⟩
          · rw [if_neg c6] at H
            have c6b0 : decide (48 ≤ a0) = false := decide_eq_false c6
            clear c6
            replace H := Option.bind_eq_some_iff.mp H
            obtain ⟨t102, A100, H⟩ := H
            replace H : (some (decide (t102 ≥ 0))) = some r := H
            have A10 := Aside0.mk A100
            clear A100
            obtain rfl := Option.some.inj H
            go_enter Tryd.func17, Tryd.ntmps17
            go_wp2_with (first | (go_at_call 26; (with_reducible refine (strings_IndexByte.calls (⟨#[45, 46, 95, 126]⟩ : ByteArray) a0 t102 _ A10.out).mono ?_); rintro e w11 ⟨rfl, hb⟩; have n0_ := Aside0.mk (below_step (by repeat (first | (with_reducible first | exact HB.out | apply below_alloc | apply pw_below_drewN | apply below_drew1) | exact HB.out)) hb); clear HB; have HB := n0_; clear n0_; (try clear hb); (try clear hb2); (try clear hk); (try clear hi)))
            go_ret
            exact ⟨by first | rfl | (simp [errW_none, errW_some] <;> rfl) | (simp [*, errW_none, errW_some] <;> rfl), by repeat (first | (with_reducible first | exact HB.out | apply below_alloc | apply pw_below_drewN | apply below_drew1) | exact HB.out)⟩
      · rw [if_neg c4] at H
        have c4b0 : decide (65 ≤ a0) = false := decide_eq_false c4
        clear c4
        by_cases c12 : a0 ≥ 48
        · rw [if_pos c12] at H
          have c12b0 : decide (48 ≤ a0) = true := decide_eq_true c12
          clear c12
          by_cases c13 : a0 ≤ 57
          · rw [if_pos c13] at H
            have c13b0 : decide (a0 ≤ 57) = true := decide_eq_true c13
            clear c13
            obtain rfl := Option.some.inj H
            go_enter Tryd.func17, Tryd.ntmps17
            go_wp2
            go_ret
            exact ⟨by first | rfl | (simp [errW_none, errW_some] <;> rfl) | (simp [*, errW_none, errW_some] <;> rfl), by repeat (first | (with_reducible first | exact HB.out | apply below_alloc | apply pw_below_drewN | apply below_drew1) | exact HB.out)⟩
          · rw [if_neg c13] at H
            have c13b0 : decide (a0 ≤ 57) = false := decide_eq_false c13
            clear c13
            replace H := Option.bind_eq_some_iff.mp H
            obtain ⟨t103, A140, H⟩ := H
            replace H : (some (decide (t103 ≥ 0))) = some r := H
            have A14 := Aside0.mk A140
            clear A140
            obtain rfl := Option.some.inj H
            go_enter Tryd.func17, Tryd.ntmps17
            go_wp2_with (first | (go_at_call 26; (with_reducible refine (strings_IndexByte.calls (⟨#[45, 46, 95, 126]⟩ : ByteArray) a0 t103 _ A14.out).mono ?_); rintro e w15 ⟨rfl, hb⟩; have n0_ := Aside0.mk (below_step (by repeat (first | (with_reducible first | exact HB.out | apply below_alloc | apply pw_below_drewN | apply below_drew1) | exact HB.out)) hb); clear HB; have HB := n0_; clear n0_; (try clear hb); (try clear hb2); (try clear hk); (try clear hi)))
            go_ret
            exact ⟨by first | rfl | (simp [errW_none, errW_some] <;> rfl) | (simp [*, errW_none, errW_some] <;> rfl), by repeat (first | (with_reducible first | exact HB.out | apply below_alloc | apply pw_below_drewN | apply below_drew1) | exact HB.out)⟩
        · rw [if_neg c12] at H
          have c12b0 : decide (48 ≤ a0) = false := decide_eq_false c12
          clear c12
          replace H := Option.bind_eq_some_iff.mp H
          obtain ⟨t104, A160, H⟩ := H
          replace H : (some (decide (t104 ≥ 0))) = some r := H
          have A16 := Aside0.mk A160
          clear A160
          obtain rfl := Option.some.inj H
          go_enter Tryd.func17, Tryd.ntmps17
          go_wp2_with (first | (go_at_call 26; (with_reducible refine (strings_IndexByte.calls (⟨#[45, 46, 95, 126]⟩ : ByteArray) a0 t104 _ A16.out).mono ?_); rintro e w17 ⟨rfl, hb⟩; have n0_ := Aside0.mk (below_step (by repeat (first | (with_reducible first | exact HB.out | apply below_alloc | apply pw_below_drewN | apply below_drew1) | exact HB.out)) hb); clear HB; have HB := n0_; clear n0_; (try clear hb); (try clear hb2); (try clear hk); (try clear hi)))
          go_ret
          exact ⟨by first | rfl | (simp [errW_none, errW_some] <;> rfl) | (simp [*, errW_none, errW_some] <;> rfl), by repeat (first | (with_reducible first | exact HB.out | apply below_alloc | apply pw_below_drewN | apply below_drew1) | exact HB.out)⟩
  · rw [if_neg c2] at H
    have c2b0 : decide (97 ≤ a0) = false := decide_eq_false c2
    clear c2
    by_cases c18 : a0 ≥ 65
    · rw [if_pos c18] at H
      have c18b0 : decide (65 ≤ a0) = true := decide_eq_true c18
      clear c18
      by_cases c19 : a0 ≤ 90
      · rw [if_pos c19] at H
        have c19b0 : decide (a0 ≤ 90) = true := decide_eq_true c19
        clear c19
        obtain rfl := Option.some.inj H
        go_enter Tryd.func17, Tryd.ntmps17
        go_wp2
        go_ret
        exact ⟨by first | rfl | (simp [errW_none, errW_some] <;> rfl) | (simp [*, errW_none, errW_some] <;> rfl), by repeat (first | (with_reducible first | exact HB.out | apply below_alloc | apply pw_below_drewN | apply below_drew1) | exact HB.out)⟩
      · rw [if_neg c19] at H
        have c19b0 : decide (a0 ≤ 90) = false := decide_eq_false c19
        clear c19
        by_cases c20 : a0 ≥ 48
        · rw [if_pos c20] at H
          have c20b0 : decide (48 ≤ a0) = true := decide_eq_true c20
          clear c20
          by_cases c21 : a0 ≤ 57
          · rw [if_pos c21] at H
            have c21b0 : decide (a0 ≤ 57) = true := decide_eq_true c21
            clear c21
            obtain rfl := Option.some.inj H
            go_enter Tryd.func17, Tryd.ntmps17
            go_wp2
            go_ret
            exact ⟨by first | rfl | (simp [errW_none, errW_some] <;> rfl) | (simp [*, errW_none, errW_some] <;> rfl), by repeat (first | (with_reducible first | exact HB.out | apply below_alloc | apply pw_below_drewN | apply below_drew1) | exact HB.out)⟩
          · rw [if_neg c21] at H
            have c21b0 : decide (a0 ≤ 57) = false := decide_eq_false c21
            clear c21
            replace H := Option.bind_eq_some_iff.mp H
            obtain ⟨t105, A220, H⟩ := H
            replace H : (some (decide (t105 ≥ 0))) = some r := H
            have A22 := Aside0.mk A220
            clear A220
            obtain rfl := Option.some.inj H
            go_enter Tryd.func17, Tryd.ntmps17
            go_wp2_with (first | (go_at_call 26; (with_reducible refine (strings_IndexByte.calls (⟨#[45, 46, 95, 126]⟩ : ByteArray) a0 t105 _ A22.out).mono ?_); rintro e w23 ⟨rfl, hb⟩; have n0_ := Aside0.mk (below_step (by repeat (first | (with_reducible first | exact HB.out | apply below_alloc | apply pw_below_drewN | apply below_drew1) | exact HB.out)) hb); clear HB; have HB := n0_; clear n0_; (try clear hb); (try clear hb2); (try clear hk); (try clear hi)))
            go_ret
            exact ⟨by first | rfl | (simp [errW_none, errW_some] <;> rfl) | (simp [*, errW_none, errW_some] <;> rfl), by repeat (first | (with_reducible first | exact HB.out | apply below_alloc | apply pw_below_drewN | apply below_drew1) | exact HB.out)⟩
        · rw [if_neg c20] at H
          have c20b0 : decide (48 ≤ a0) = false := decide_eq_false c20
          clear c20
          replace H := Option.bind_eq_some_iff.mp H
          obtain ⟨t106, A240, H⟩ := H
          replace H : (some (decide (t106 ≥ 0))) = some r := H
          have A24 := Aside0.mk A240
          clear A240
          obtain rfl := Option.some.inj H
          go_enter Tryd.func17, Tryd.ntmps17
          go_wp2_with (first | (go_at_call 26; (with_reducible refine (strings_IndexByte.calls (⟨#[45, 46, 95, 126]⟩ : ByteArray) a0 t106 _ A24.out).mono ?_); rintro e w25 ⟨rfl, hb⟩; have n0_ := Aside0.mk (below_step (by repeat (first | (with_reducible first | exact HB.out | apply below_alloc | apply pw_below_drewN | apply below_drew1) | exact HB.out)) hb); clear HB; have HB := n0_; clear n0_; (try clear hb); (try clear hb2); (try clear hk); (try clear hi)))
          go_ret
          exact ⟨by first | rfl | (simp [errW_none, errW_some] <;> rfl) | (simp [*, errW_none, errW_some] <;> rfl), by repeat (first | (with_reducible first | exact HB.out | apply below_alloc | apply pw_below_drewN | apply below_drew1) | exact HB.out)⟩
    · rw [if_neg c18] at H
      have c18b0 : decide (65 ≤ a0) = false := decide_eq_false c18
      clear c18
      by_cases c26 : a0 ≥ 48
      · rw [if_pos c26] at H
        have c26b0 : decide (48 ≤ a0) = true := decide_eq_true c26
        clear c26
        by_cases c27 : a0 ≤ 57
        · rw [if_pos c27] at H
          have c27b0 : decide (a0 ≤ 57) = true := decide_eq_true c27
          clear c27
          obtain rfl := Option.some.inj H
          go_enter Tryd.func17, Tryd.ntmps17
          go_wp2
          go_ret
          exact ⟨by first | rfl | (simp [errW_none, errW_some] <;> rfl) | (simp [*, errW_none, errW_some] <;> rfl), by repeat (first | (with_reducible first | exact HB.out | apply below_alloc | apply pw_below_drewN | apply below_drew1) | exact HB.out)⟩
        · rw [if_neg c27] at H
          have c27b0 : decide (a0 ≤ 57) = false := decide_eq_false c27
          clear c27
          replace H := Option.bind_eq_some_iff.mp H
          obtain ⟨t107, A280, H⟩ := H
          replace H : (some (decide (t107 ≥ 0))) = some r := H
          have A28 := Aside0.mk A280
          clear A280
          obtain rfl := Option.some.inj H
          go_enter Tryd.func17, Tryd.ntmps17
          go_wp2_with (first | (go_at_call 26; (with_reducible refine (strings_IndexByte.calls (⟨#[45, 46, 95, 126]⟩ : ByteArray) a0 t107 _ A28.out).mono ?_); rintro e w29 ⟨rfl, hb⟩; have n0_ := Aside0.mk (below_step (by repeat (first | (with_reducible first | exact HB.out | apply below_alloc | apply pw_below_drewN | apply below_drew1) | exact HB.out)) hb); clear HB; have HB := n0_; clear n0_; (try clear hb); (try clear hb2); (try clear hk); (try clear hi)))
          go_ret
          exact ⟨by first | rfl | (simp [errW_none, errW_some] <;> rfl) | (simp [*, errW_none, errW_some] <;> rfl), by repeat (first | (with_reducible first | exact HB.out | apply below_alloc | apply pw_below_drewN | apply below_drew1) | exact HB.out)⟩
      · rw [if_neg c26] at H
        have c26b0 : decide (48 ≤ a0) = false := decide_eq_false c26
        clear c26
        replace H := Option.bind_eq_some_iff.mp H
        obtain ⟨t108, A300, H⟩ := H
        replace H : (some (decide (t108 ≥ 0))) = some r := H
        have A30 := Aside0.mk A300
        clear A300
        obtain rfl := Option.some.inj H
        go_enter Tryd.func17, Tryd.ntmps17
        go_wp2_with (first | (go_at_call 26; (with_reducible refine (strings_IndexByte.calls (⟨#[45, 46, 95, 126]⟩ : ByteArray) a0 t108 _ A30.out).mono ?_); rintro e w31 ⟨rfl, hb⟩; have n0_ := Aside0.mk (below_step (by repeat (first | (with_reducible first | exact HB.out | apply below_alloc | apply pw_below_drewN | apply below_drew1) | exact HB.out)) hb); clear HB; have HB := n0_; clear n0_; (try clear hb); (try clear hb2); (try clear hk); (try clear hi)))
        go_ret
        exact ⟨by first | rfl | (simp [errW_none, errW_some] <;> rfl) | (simp [*, errW_none, errW_some] <;> rfl), by repeat (first | (with_reducible first | exact HB.out | apply below_alloc | apply pw_below_drewN | apply below_drew1) | exact HB.out)⟩

end Go.Proofs.YtpifopiopgbbaaaDoor.Pa
