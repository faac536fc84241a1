-- Written by a program of this session (wip/extprint.py) over the kit's print. Not trusted: Lean checks it.
import Derived.Test.YtpifopiopgbbaaaDoorPfx0
import Derived.Test.YtpifopiopgbbaaaDoorPfx1
import Derived.Test.YtpifopiopgbbaaaDoorPfx2
import Derived.Test.YtpifopiopgbbaaaDoorPfx3
namespace Go.Proofs.YtpifopiopgbbaaaDoor.Pf
open Go.RowKit Go.Proofs.YtpifopiopgbbaaaDoorW.PrintWords Go.Proofs.YtpifopiopgbbaaaDoorW.PrintLast Go.Proofs.YtpifopiopgbbaaaDoorW.PrintMore
attribute [local go_sem] max2_int min2_int max_two min_two max_three min_three max_four min_four   -- for this text's walks alone
set_option linter.unusedVariables false
set_option linter.unusedSimpArgs false

/-! ### calepinlaw06_PathBytes: function 6 -/
mutual
def calepinlaw06_PathBytes.j0 : Nat → ByteArray → ByteArray → Option (Bool)
  | 0, _, _ => none
  | k + 1, x0, x5 => calepinlaw06_PathBytes.l0 k x0 x5 (⟨#[47]⟩ : ByteArray) 0
def calepinlaw06_PathBytes.l0 : Nat → ByteArray → ByteArray → ByteArray → Int → Option (Bool)
  | 0, _, _, _, _ => none
  | k + 1, x0, x5, x6, x7 => if x7 < (x0.size : Int) then (if 0 ≤ x7 then (if 0 ≤ ((Int.tdiv (bt x0 x7) 16) % 256) then (if ((Int.tdiv (bt x0 x7) 16) % 256) ≤ ((((Int.tdiv (bt x0 x7) 16) % 256) + 1) % 256) then (if ((((Int.tdiv (bt x0 x7) 16) % 256) + 1) % 256) ≤ (x5.size : Int) then ((some (x5.extract (((Int.tdiv (bt x0 x7) 16) % 256) : Int).toNat (((((Int.tdiv (bt x0 x7) 16) % 256) + 1) % 256) : Int).toNat : ByteArray)).bind fun y160 => (if 1 + y160.size ≤ 9223372036854775807 then (if 0 ≤ (Int.tmod (bt x0 x7) 16) then (if (Int.tmod (bt x0 x7) 16) ≤ (((Int.tmod (bt x0 x7) 16) + 1) % 256) then (if (((Int.tmod (bt x0 x7) 16) + 1) % 256) ≤ (x5.size : Int) then ((some (x5.extract ((Int.tmod (bt x0 x7) 16) : Int).toNat ((((Int.tmod (bt x0 x7) 16) + 1) % 256) : Int).toNat : ByteArray)).bind fun y161 => (if ((⟨#[37]⟩ : ByteArray) ++ y160).size + y161.size ≤ 9223372036854775807 then (if x6.size + (((⟨#[37]⟩ : ByteArray) ++ y160) ++ y161).size ≤ 9223372036854775807 then (calepinlaw06_PathBytes.l0 k x0 x5 (x6 ++ (((⟨#[37]⟩ : ByteArray) ++ y160) ++ y161)) (wrap64 (x7 + 1))) else (none)) else (none))) else (none)) else (none)) else (none)) else (none))) else (none)) else (none)) else (none)) else (none)) else (if x6.size + 1 ≤ 9223372036854775807 then ((path_Parse.f k (x6 ++ (⟨#[47]⟩ : ByteArray))).bind fun bt162 => (if x6.size + x6.size ≤ 9223372036854775807 then ((path_Parse.f k (x6 ++ x6)).bind fun bt165 => (if bt162.2.2 = 0 then (if bt162.1.toList = x0.toList then (if bt162.2.1.toList = ([] : List UInt8) then (if bt165.2.2 = 0 then (if bt165.1.toList = x0.toList then (some (bt165.2.1.toList == x0.toList)) else (some false)) else (some false)) else (some false)) else (some false)) else (some false))) else (none))) else (none))
end
def calepinlaw06_PathBytes.f (k : Nat) (a0 : ByteArray) (a1 : Bool) : Option (Bool) := (calepinlaw06_first.f k).bind fun t158 => (if t158 = true then ((calepinref06_Fits.f k a0).bind fun t159 => (if t159 = true then (if a1 = true then (calepinlaw06_PathBytes.j0 k a0 (⟨#[48, 49, 50, 51, 52, 53, 54, 55, 56, 57, 65, 66, 67, 68, 69, 70]⟩ : ByteArray)) else (calepinlaw06_PathBytes.j0 k a0 (⟨#[48, 49, 50, 51, 52, 53, 54, 55, 56, 57, 97, 98, 99, 100, 101, 102]⟩ : ByteArray))) else (some true))) else (some false))
theorem calepinlaw06_PathBytes.mono_l : ∀ k, (∀ y0 y1, LeO (calepinlaw06_PathBytes.j0 k y0 y1) (calepinlaw06_PathBytes.j0 (k + 1) y0 y1)) ∧ (∀ y0 y1 y2 y3, LeO (calepinlaw06_PathBytes.l0 k y0 y1 y2 y3) (calepinlaw06_PathBytes.l0 (k + 1) y0 y1 y2 y3))
  | 0 => ⟨fun _ _ r h => by simp [calepinlaw06_PathBytes.j0] at h, fun _ _ _ _ r h => by simp [calepinlaw06_PathBytes.l0] at h⟩
  | k + 1 => by
    obtain ⟨ih0, ih1⟩ := calepinlaw06_PathBytes.mono_l k
    refine ⟨?_, ?_⟩
    · intro y0 y1
      unfold calepinlaw06_PathBytes.j0
      repeat' first
      | (with_reducible exact ih0 _ _)
      | (with_reducible exact ih1 _ _ _ _)
      | (with_reducible exact calepinlaw06_first.mono _)
      | (with_reducible exact calepinref06_Fits.mono _ _)
      | (with_reducible exact path_Parse.mono _ _)
      | (with_reducible exact LeO.refl _)
      | (with_reducible exact LeO.none _)
      | (with_reducible refine LeO.ite ?_ ?_)
      | (with_reducible refine LeO.bind ?_ (fun _ => ?_))
      | exact ih0 _ _
      | exact ih1 _ _ _ _
      | exact calepinlaw06_first.mono _
      | exact calepinref06_Fits.mono _ _
      | exact path_Parse.mono _ _
      | exact LeO.none _
      | refine LeO.ite ?_ ?_
      | refine LeO.bind ?_ (fun _ => ?_)
    · intro y0 y1 y2 y3
      unfold calepinlaw06_PathBytes.l0
      repeat' first
      | (with_reducible exact ih0 _ _)
      | (with_reducible exact ih1 _ _ _ _)
      | (with_reducible exact calepinlaw06_first.mono _)
      | (with_reducible exact calepinref06_Fits.mono _ _)
      | (with_reducible exact path_Parse.mono _ _)
      | (with_reducible exact LeO.refl _)
      | (with_reducible exact LeO.none _)
      | (with_reducible refine LeO.ite ?_ ?_)
      | (with_reducible refine LeO.bind ?_ (fun _ => ?_))
      | exact ih0 _ _
      | exact ih1 _ _ _ _
      | exact calepinlaw06_first.mono _
      | exact calepinref06_Fits.mono _ _
      | exact path_Parse.mono _ _
      | exact LeO.none _
      | refine LeO.ite ?_ ?_
      | refine LeO.bind ?_ (fun _ => ?_)
theorem calepinlaw06_PathBytes.mono : ∀ a0 a1 k, LeO (calepinlaw06_PathBytes.f k a0 a1) (calepinlaw06_PathBytes.f (k + 1) a0 a1) := by
  intro a0 a1 k
  obtain ⟨ih0, ih1⟩ := calepinlaw06_PathBytes.mono_l k
  unfold calepinlaw06_PathBytes.f
  repeat' first
      | (with_reducible exact ih0 _ _)
      | (with_reducible exact ih1 _ _ _ _)
      | (with_reducible exact calepinlaw06_first.mono _)
      | (with_reducible exact calepinref06_Fits.mono _ _)
      | (with_reducible exact path_Parse.mono _ _)
      | (with_reducible exact LeO.refl _)
      | (with_reducible exact LeO.none _)
      | (with_reducible refine LeO.ite ?_ ?_)
      | (with_reducible refine LeO.bind ?_ (fun _ => ?_))
      | exact ih0 _ _
      | exact ih1 _ _ _ _
      | exact calepinlaw06_first.mono _
      | exact calepinref06_Fits.mono _ _
      | exact path_Parse.mono _ _
      | exact LeO.none _
      | refine LeO.ite ?_ ?_
      | refine LeO.bind ?_ (fun _ => ?_)
set_option maxHeartbeats 8000000 in
set_option maxRecDepth 100000 in
theorem calepinlaw06_PathBytes.calls (k : Nat) (a0 : ByteArray) (a1 : Bool) (r : Bool) (w : World) (hE : Env w) (h : calepinlaw06_PathBytes.f k a0 a1 = some r) :
    Calls Tryd.prog 6 #[.string a0, .bool a1] w fun e w' => e = .returned (.bool r) ∧ Below w.heap.size w w' := by
  have HE := Aside0.mk hE
  clear hE
  have HB := Aside0.mk (Below.refl w.heap.size w)
  have H : ((calepinlaw06_first.f k).bind fun t158 => (if t158 = true then ((calepinref06_Fits.f k a0).bind fun t159 => (if t159 = true then (if a1 = true then (calepinlaw06_PathBytes.j0 k a0 (⟨#[48, 49, 50, 51, 52, 53, 54, 55, 56, 57, 65, 66, 67, 68, 69, 70]⟩ : ByteArray)) else (calepinlaw06_PathBytes.j0 k a0 (⟨#[48, 49, 50, 51, 52, 53, 54, 55, 56, 57, 97, 98, 99, 100, 101, 102]⟩ : ByteArray))) else (some true))) else (some false))) = some r := h
  clear h
  replace H := Option.bind_eq_some_iff.mp H
  obtain ⟨t158, A30, H⟩ := H
  replace H : (if t158 = true then ((calepinref06_Fits.f k a0).bind fun t159 => (if t159 = true then (if a1 = true then (calepinlaw06_PathBytes.j0 k a0 (⟨#[48, 49, 50, 51, 52, 53, 54, 55, 56, 57, 65, 66, 67, 68, 69, 70]⟩ : ByteArray)) else (calepinlaw06_PathBytes.j0 k a0 (⟨#[48, 49, 50, 51, 52, 53, 54, 55, 56, 57, 97, 98, 99, 100, 101, 102]⟩ : ByteArray))) else (some true))) else (some false)) = some r := H
  have A3 := Aside0.mk A30
  clear A30
  by_cases c4 : t158 = true
  · subst c4
    have H1 : ((calepinref06_Fits.f k a0).bind fun t159 => (if t159 = true then (if a1 = true then (calepinlaw06_PathBytes.j0 k a0 (⟨#[48, 49, 50, 51, 52, 53, 54, 55, 56, 57, 65, 66, 67, 68, 69, 70]⟩ : ByteArray)) else (calepinlaw06_PathBytes.j0 k a0 (⟨#[48, 49, 50, 51, 52, 53, 54, 55, 56, 57, 97, 98, 99, 100, 101, 102]⟩ : ByteArray))) else (some true))) = some r := by rw [if_pos rfl] at H; exact H
    clear H
    have H := H1
    clear H1
    replace H := Option.bind_eq_some_iff.mp H
    obtain ⟨t159, A50, H⟩ := H
    replace H : (if t159 = true then (if a1 = true then (calepinlaw06_PathBytes.j0 k a0 (⟨#[48, 49, 50, 51, 52, 53, 54, 55, 56, 57, 65, 66, 67, 68, 69, 70]⟩ : ByteArray)) else (calepinlaw06_PathBytes.j0 k a0 (⟨#[48, 49, 50, 51, 52, 53, 54, 55, 56, 57, 97, 98, 99, 100, 101, 102]⟩ : ByteArray))) else (some true)) = some r := H
    have A5 := Aside0.mk A50
    clear A50
    by_cases c6 : t159 = true
    · subst c6
      have H1 : (if a1 = true then (calepinlaw06_PathBytes.j0 k a0 (⟨#[48, 49, 50, 51, 52, 53, 54, 55, 56, 57, 65, 66, 67, 68, 69, 70]⟩ : ByteArray)) else (calepinlaw06_PathBytes.j0 k a0 (⟨#[48, 49, 50, 51, 52, 53, 54, 55, 56, 57, 97, 98, 99, 100, 101, 102]⟩ : ByteArray))) = some r := by rw [if_pos rfl] at H; exact H
      clear H
      have H := H1
      clear H1
      have HC7 := Aside0.mk H
      clear H
      go_enter Tryd.func6, Tryd.ntmps6
      go_upto_if 19 with (first | (go_at_call 7; (with_reducible refine (calepinlaw06_first.calls k  true _ (env_at HE.out (by repeat (first | (with_reducible first | exact HB.out | apply below_alloc | apply pw_below_drewN | apply below_drew1) | exact HB.out))) A3.out).mono ?_); rintro e w8 ⟨rfl, hb⟩; have n0_ := Aside0.mk (below_step (by repeat (first | (with_reducible first | exact HB.out | apply below_alloc | apply pw_below_drewN | apply below_drew1) | exact HB.out)) hb); clear HB; have HB := n0_; clear n0_; (try clear hb); (try clear hb2); (try clear hk); (try clear hi)) | (go_at_call 9; (with_reducible refine (calepinref06_Fits.calls k a0 true _ A5.out).mono ?_); rintro e w' ⟨rfl, ⟨nd, rfl⟩⟩; (try first | exact ⟨rfl, _, World.drewN_drewN _ _ _⟩ | exact ⟨rfl, _, Eq.trans (World.drewN_drewN _ _ _) (congrArg (World.drewN _) (Nat.add_assoc _ _ _))⟩)))
      repeat (go_quiet (first | (go_at_call 7; (with_reducible refine (calepinlaw06_first.calls k  true _ (env_at HE.out (by repeat (first | (with_reducible first | exact HB.out | apply below_alloc | apply pw_below_drewN | apply below_drew1) | exact HB.out))) A3.out).mono ?_); rintro e w8 ⟨rfl, hb⟩; have n0_ := Aside0.mk (below_step (by repeat (first | (with_reducible first | exact HB.out | apply below_alloc | apply pw_below_drewN | apply below_drew1) | exact HB.out)) hb); clear HB; have HB := n0_; clear n0_; (try clear hb); (try clear hb2); (try clear hk); (try clear hi)) | (go_at_call 9; (with_reducible refine (calepinref06_Fits.calls k a0 true _ A5.out).mono ?_); rintro e w' ⟨rfl, ⟨nd, rfl⟩⟩; (try first | exact ⟨rfl, _, World.drewN_drewN _ _ _⟩ | exact ⟨rfl, _, Eq.trans (World.drewN_drewN _ _ _) (congrArg (World.drewN _) (Nat.add_assoc _ _ _))⟩))); go_upto_if 19 with (first | (go_at_call 7; (with_reducible refine (calepinlaw06_first.calls k  true _ (env_at HE.out (by repeat (first | (with_reducible first | exact HB.out | apply below_alloc | apply pw_below_drewN | apply below_drew1) | exact HB.out))) A3.out).mono ?_); rintro e w8 ⟨rfl, hb⟩; have n0_ := Aside0.mk (below_step (by repeat (first | (with_reducible first | exact HB.out | apply below_alloc | apply pw_below_drewN | apply below_drew1) | exact HB.out)) hb); clear HB; have HB := n0_; clear n0_; (try clear hb); (try clear hb2); (try clear hk); (try clear hi)) | (go_at_call 9; (with_reducible refine (calepinref06_Fits.calls k a0 true _ A5.out).mono ?_); rintro e w' ⟨rfl, ⟨nd, rfl⟩⟩; (try first | exact ⟨rfl, _, World.drewN_drewN _ _ _⟩ | exact ⟨rfl, _, Eq.trans (World.drewN_drewN _ _ _) (congrArg (World.drewN _) (Nat.add_assoc _ _ _))⟩))))
      (try simp only [Act.put, List.setIfInBounds_toArray, List.set_cons_zero, List.set_cons_succ])
      go_cut [5] (fun v5 wc => ∃ (kq : Nat) (x5_6 : ByteArray), v5 = .string x5_6 ∧ Aside0 (calepinlaw06_PathBytes.j0 kq a0 x5_6 = some r) ∧ Aside0 (kq ≤ k) ∧ Aside0 (Below w.heap.size w wc))
      case first =>
        have H := HC7.out
        clear HC7
        by_cases c9 : a1 = true
        · subst c9
          have H1 : (calepinlaw06_PathBytes.j0 k a0 (⟨#[48, 49, 50, 51, 52, 53, 54, 55, 56, 57, 65, 66, 67, 68, 69, 70]⟩ : ByteArray)) = some r := by rw [if_pos rfl] at H; exact H
          clear H
          have H := H1
          clear H1
          have H' := Aside0.mk H
          clear H
          go_wp2
          repeat (go_quiet (fail); try go_wp2)
          go_meet
          case rel => exact ⟨_, ((⟨#[48, 49, 50, 51, 52, 53, 54, 55, 56, 57, 65, 66, 67, 68, 69, 70]⟩ : ByteArray)), (by first | rfl | (simp; done) | (simp [*]; done) | (simp; exact isEmpty_ne)), H', ⟨by first | omega | exact Nat.le_refl _⟩, ⟨by repeat (first | (with_reducible first | exact HB.out | apply below_alloc | apply pw_below_drewN | apply below_drew1) | exact HB.out)⟩⟩
        · replace c9 := Bool.eq_false_iff.mpr c9
          subst c9
          have H1 : (calepinlaw06_PathBytes.j0 k a0 (⟨#[48, 49, 50, 51, 52, 53, 54, 55, 56, 57, 97, 98, 99, 100, 101, 102]⟩ : ByteArray)) = some r := by rw [if_neg (show ¬ (false = true) by decide)] at H; exact H
          clear H
          have H := H1
          clear H1
          have H' := Aside0.mk H
          clear H
          go_wp2
          repeat (go_quiet (fail); try go_wp2)
          go_meet
          case rel => exact ⟨_, ((⟨#[48, 49, 50, 51, 52, 53, 54, 55, 56, 57, 97, 98, 99, 100, 101, 102]⟩ : ByteArray)), (by first | rfl | (simp; done) | (simp [*]; done) | (simp; exact isEmpty_ne)), H', ⟨by first | omega | exact Nat.le_refl _⟩, ⟨by repeat (first | (with_reducible first | exact HB.out | apply below_alloc | apply pw_below_drewN | apply below_drew1) | exact HB.out)⟩⟩
      case rest =>
        clear HC7
        try clear p2
        try clear c4
        try clear c6
        try clear c9
        obtain ⟨kq, x5_6, rfl, HA, HJ6, HB⟩ := hcut
        cases kq with
        | zero => exact absurd HA.out (by simp [calepinlaw06_PathBytes.j0])
        | succ kj6 =>
          have H := HA.out
          clear HA
          simp only [calepinlaw06_PathBytes.j0] at H
          have H' := Aside0.mk H
          clear H
          go_wp2
          repeat (go_quiet (fail); try go_wp2)
          go_loopg [6, 7] kj6 (fun kq v6 v7 w' => ∃ (x6_2 : ByteArray) (x7_2 : Int), v6 = .string x6_2 ∧ v7 = .int .i64 x7_2 ∧ Aside0 (calepinlaw06_PathBytes.l0 kq a0 x5_6 x6_2 x7_2 = some r) ∧ Aside0 (kq ≤ kj6) ∧ Aside0 (Below w.heap.size w w'))
          case atStart => exact ⟨((⟨#[47]⟩ : ByteArray)), (0), (by first | rfl | (simp; done) | (simp [*]; done) | (simp; exact isEmpty_ne)), (by first | rfl | (simp; done) | (simp [*]; done) | (simp; exact isEmpty_ne)), H', ⟨Nat.le_refl _⟩, ⟨by repeat (first | (with_reducible first | exact HB.out | apply below_alloc | apply pw_below_drewN | apply below_drew1) | exact HB.out)⟩⟩
          case round =>
            clear H'
            try clear p2
            try clear c4
            try clear c6
            try clear c9
            try clear p2
            obtain ⟨x6_2, x7_2, rfl, rfl, HA, HK2, HB⟩ := hrel
            cases gk with
            | zero => exact absurd HA.out (by simp [calepinlaw06_PathBytes.l0])
            | succ k2 =>
              have H := HA.out
              clear HA
              simp only [calepinlaw06_PathBytes.l0] at H
              by_cases c10 : x7_2 < (a0.size : Int)
              · rw [if_pos c10] at H
                have c10b0 : decide (x7_2 < (a0.size : Int)) = true := decide_eq_true c10
                clear c10
                by_cases c11 : 0 ≤ x7_2
                · rw [if_pos c11] at H
                  have c11b0 : decide (0 ≤ x7_2) = true := decide_eq_true c11
                  clear c11
                  obtain ⟨ji14, hji14⟩ : ∃ j_ : Int, ((Int.tdiv (bt a0 x7_2) 16) % 256) = j_ := ⟨_, rfl⟩
                  replace H : (if 0 ≤ (ji14) then (if (ji14) ≤ (((ji14) + 1) % 256) then (if (((ji14) + 1) % 256) ≤ (x5_6.size : Int) then ((some (x5_6.extract ((ji14) : Int).toNat ((((ji14) + 1) % 256) : Int).toNat : ByteArray)).bind fun y160 => (if 1 + y160.size ≤ 9223372036854775807 then (if 0 ≤ (Int.tmod (bt a0 x7_2) 16) then (if (Int.tmod (bt a0 x7_2) 16) ≤ (((Int.tmod (bt a0 x7_2) 16) + 1) % 256) then (if (((Int.tmod (bt a0 x7_2) 16) + 1) % 256) ≤ (x5_6.size : Int) then ((some (x5_6.extract ((Int.tmod (bt a0 x7_2) 16) : Int).toNat ((((Int.tmod (bt a0 x7_2) 16) + 1) % 256) : Int).toNat : ByteArray)).bind fun y161 => (if ((⟨#[37]⟩ : ByteArray) ++ y160).size + y161.size ≤ 9223372036854775807 then (if x6_2.size + (((⟨#[37]⟩ : ByteArray) ++ y160) ++ y161).size ≤ 9223372036854775807 then (calepinlaw06_PathBytes.l0 k2 a0 x5_6 (x6_2 ++ (((⟨#[37]⟩ : ByteArray) ++ y160) ++ y161)) (wrap64 (x7_2 + 1))) else (none)) else (none))) else (none)) else (none)) else (none)) else (none))) else (none)) else (none)) else (none)) = some r := by first | (rw [hji14] at H; exact H) | (simp only [hji14] at H ⊢; exact H)
                  by_cases c15 : 0 ≤ (ji14)
                  · rw [if_pos c15] at H
                    have c15b0 := eq_true c15
                    have c15b1 : decide (0 ≤ (ji14)) = true := decide_eq_true c15
                    clear c15
                    by_cases c16 : (ji14) ≤ (((ji14) + 1) % 256)
                    · rw [if_pos c16] at H
                      have c16b0 := eq_true c16
                      have c16b1 : decide ((ji14) ≤ (((ji14) + 1) % 256)) = true := decide_eq_true c16
                      by_cases c17 : (((ji14) + 1) % 256) ≤ (x5_6.size : Int)
                      · rw [if_pos c17] at H
                        have c17b0 := eq_true c17
                        have c17b1 : decide ((((ji14) + 1) % 256) ≤ (x5_6.size : Int)) = true := decide_eq_true c17
                        obtain ⟨y160, hy160⟩ : ∃ y_ : ByteArray, y_ = (x5_6.extract ((ji14) : Int).toNat ((((ji14) + 1) % 256) : Int).toNat) := ⟨_, rfl⟩
                        replace H : (if 1 + y160.size ≤ 9223372036854775807 then (if 0 ≤ (Int.tmod (bt a0 x7_2) 16) then (if (Int.tmod (bt a0 x7_2) 16) ≤ (((Int.tmod (bt a0 x7_2) 16) + 1) % 256) then (if (((Int.tmod (bt a0 x7_2) 16) + 1) % 256) ≤ (x5_6.size : Int) then ((some (x5_6.extract ((Int.tmod (bt a0 x7_2) 16) : Int).toNat ((((Int.tmod (bt a0 x7_2) 16) + 1) % 256) : Int).toNat : ByteArray)).bind fun y161 => (if ((⟨#[37]⟩ : ByteArray) ++ y160).size + y161.size ≤ 9223372036854775807 then (if x6_2.size + (((⟨#[37]⟩ : ByteArray) ++ y160) ++ y161).size ≤ 9223372036854775807 then (calepinlaw06_PathBytes.l0 k2 a0 x5_6 (x6_2 ++ (((⟨#[37]⟩ : ByteArray) ++ y160) ++ y161)) (wrap64 (x7_2 + 1))) else (none)) else (none))) else (none)) else (none)) else (none)) else (none)) = some r := by first | (rw [hy160]; with_reducible exact H) | (have H2_ := (Option.bind_some _ _).symm.trans H; rw [hy160]; with_reducible exact H2_) | (have H2_ := (Option.bind_some _ _).symm.trans H; with_reducible exact H2_) | with_reducible exact H | (rw [hy160]; exact H) | exact H
                        have Ny160 := Aside0.mk hy160
                        clear hy160
                        have sy160 := Ny160.out.symm
                        by_cases c18 : 1 + y160.size ≤ 9223372036854775807
                        · rw [if_pos c18] at H
                          have c18b0 := eq_true c18
                          have c18b1 : decide (1 + y160.size ≤ 9223372036854775807) = true := decide_eq_true c18
                          try have c18b2 : (9223372036854775807 < 1 + y160.size) = False := eq_false (Nat.not_lt.2 c18)
                          obtain ⟨ji21, hji21⟩ : ∃ j_ : Int, (Int.tmod (bt a0 x7_2) 16) = j_ := ⟨_, rfl⟩
                          replace H : (if 0 ≤ (ji21) then (if (ji21) ≤ (((ji21) + 1) % 256) then (if (((ji21) + 1) % 256) ≤ (x5_6.size : Int) then ((some (x5_6.extract ((ji21) : Int).toNat ((((ji21) + 1) % 256) : Int).toNat : ByteArray)).bind fun y161 => (if ((⟨#[37]⟩ : ByteArray) ++ y160).size + y161.size ≤ 9223372036854775807 then (if x6_2.size + (((⟨#[37]⟩ : ByteArray) ++ y160) ++ y161).size ≤ 9223372036854775807 then (calepinlaw06_PathBytes.l0 k2 a0 x5_6 (x6_2 ++ (((⟨#[37]⟩ : ByteArray) ++ y160) ++ y161)) (wrap64 (x7_2 + 1))) else (none)) else (none))) else (none)) else (none)) else (none)) = some r := by first | (rw [hji21] at H; exact H) | (simp only [hji21] at H ⊢; exact H)
                          by_cases c22 : 0 ≤ (ji21)
                          · rw [if_pos c22] at H
                            have c22b0 := eq_true c22
                            have c22b1 : decide (0 ≤ (ji21)) = true := decide_eq_true c22
                            clear c22
                            by_cases c23 : (ji21) ≤ (((ji21) + 1) % 256)
                            · rw [if_pos c23] at H
                              have c23b0 := eq_true c23
                              have c23b1 : decide ((ji21) ≤ (((ji21) + 1) % 256)) = true := decide_eq_true c23
                              by_cases c24 : (((ji21) + 1) % 256) ≤ (x5_6.size : Int)
                              · rw [if_pos c24] at H
                                have c24b0 := eq_true c24
                                have c24b1 : decide ((((ji21) + 1) % 256) ≤ (x5_6.size : Int)) = true := decide_eq_true c24
                                obtain ⟨y161, hy161⟩ : ∃ y_ : ByteArray, y_ = (x5_6.extract ((ji21) : Int).toNat ((((ji21) + 1) % 256) : Int).toNat) := ⟨_, rfl⟩
                                replace H : (if ((⟨#[37]⟩ : ByteArray) ++ y160).size + y161.size ≤ 9223372036854775807 then (if x6_2.size + (((⟨#[37]⟩ : ByteArray) ++ y160) ++ y161).size ≤ 9223372036854775807 then (calepinlaw06_PathBytes.l0 k2 a0 x5_6 (x6_2 ++ (((⟨#[37]⟩ : ByteArray) ++ y160) ++ y161)) (wrap64 (x7_2 + 1))) else (none)) else (none)) = some r := by first | (rw [hy161]; with_reducible exact H) | (have H2_ := (Option.bind_some _ _).symm.trans H; rw [hy161]; with_reducible exact H2_) | (have H2_ := (Option.bind_some _ _).symm.trans H; with_reducible exact H2_) | with_reducible exact H | (rw [hy161]; exact H) | exact H
                                have Ny161 := Aside0.mk hy161
                                clear hy161
                                have sy161 := Ny161.out.symm
                                by_cases c25 : ((⟨#[37]⟩ : ByteArray) ++ y160).size + y161.size ≤ 9223372036854775807
                                · rw [if_pos c25] at H
                                  have c25b0 := eq_true c25
                                  have c25b1 : decide (((⟨#[37]⟩ : ByteArray) ++ y160).size + y161.size ≤ 9223372036854775807) = true := decide_eq_true c25
                                  try have c25b2 : (9223372036854775807 < ((⟨#[37]⟩ : ByteArray) ++ y160).size + y161.size) = False := eq_false (Nat.not_lt.2 c25)
                                  have c25b3 := c25b2
                                  (try simp only [ByteArray.size_extract, ByteArray.size_append, Nat.min_self, size_lit1] at c25b3)
                                  by_cases c26 : x6_2.size + (((⟨#[37]⟩ : ByteArray) ++ y160) ++ y161).size ≤ 9223372036854775807
                                  · rw [if_pos c26] at H
                                    have c26b0 := eq_true c26
                                    have c26b1 : decide (x6_2.size + (((⟨#[37]⟩ : ByteArray) ++ y160) ++ y161).size ≤ 9223372036854775807) = true := decide_eq_true c26
                                    try have c26b2 : (9223372036854775807 < x6_2.size + (((⟨#[37]⟩ : ByteArray) ++ y160) ++ y161).size) = False := eq_false (Nat.not_lt.2 c26)
                                    have c26b3 := c26b2
                                    (try simp only [ByteArray.size_extract, ByteArray.size_append, Nat.min_self, size_lit1] at c26b3)
                                    have H' := Aside0.mk H
                                    clear H
                                    have p12 : 0 ≤ (x7_2 : Int) := of_decide_eq_true (by first | (with_reducible assumption) | assumption)
                                    have q12 : x7_2 < (a0.size : Int) := of_decide_eq_true (by first | (with_reducible assumption) | assumption)
                                    have hx12 := bt_at a0 x7_2
                                    replace p12 := eq_true p12
                                    replace q12 := eq_true q12
                                    have p13 : 0 ≤ (x7_2 : Int) := of_decide_eq_true (by first | (with_reducible assumption) | assumption)
                                    have q13 : x7_2 < (a0.size : Int) := of_decide_eq_true (by first | (with_reducible assumption) | assumption)
                                    have hx13 := bt_at a0 x7_2
                                    replace p13 := eq_true p13
                                    replace q13 := eq_true q13
                                    have p19 : 0 ≤ (x7_2 : Int) := of_decide_eq_true (by first | (with_reducible assumption) | assumption)
                                    have q19 : x7_2 < (a0.size : Int) := of_decide_eq_true (by first | (with_reducible assumption) | assumption)
                                    have hx19 := bt_at a0 x7_2
                                    replace p19 := eq_true p19
                                    replace q19 := eq_true q19
                                    have p20 : 0 ≤ (x7_2 : Int) := of_decide_eq_true (by first | (with_reducible assumption) | assumption)
                                    have q20 : x7_2 < (a0.size : Int) := of_decide_eq_true (by first | (with_reducible assumption) | assumption)
                                    have hx20 := bt_at a0 x7_2
                                    replace p20 := eq_true p20
                                    replace q20 := eq_true q20
                                    go_wp2
                                    have hk1 : IntKind.u8.wrap ((bt a0 x7_2).tdiv 16) = ji14 := by rw [IntKind.wrap_u8]; exact hji14
                                    have hk2 : IntKind.u8.wrap (ji14 + 1) = (ji14 + 1) % 256 := IntKind.wrap_u8 _
                                    have hk3 : IntKind.u8.wrap (ji21 + 1) = (ji21 + 1) % 256 := IntKind.wrap_u8 _
                                    repeat (go_quiet (fail); try go_wp2)
                                    go_roundg k2
                                    case measure => have := HJ6.out; have := HK2.out; omega
                                    case rel => exact ⟨(x6_2 ++ (((⟨#[37]⟩ : ByteArray) ++ y160) ++ y161)), (wrap64 (x7_2 + 1)), (by first | rfl | (simp; done) | (simp [*]; done) | (simp; exact isEmpty_ne)), (by first | rfl | (simp; done) | (simp [*]; done) | (simp; exact isEmpty_ne)), H', ⟨by have := HJ6.out; have := HK2.out; omega⟩, ⟨by repeat (first | (with_reducible first | exact HB.out | apply below_alloc | apply pw_below_drewN | apply below_drew1) | exact HB.out)⟩⟩
                                  · rw [if_neg c26] at H
                                    exact absurd H (by simp)
                                · rw [if_neg c25] at H
                                  exact absurd H (by simp)
                              · rw [if_neg c24] at H
                                exact absurd H (by simp)
                            · rw [if_neg c23] at H
                              exact absurd H (by simp)
                          · rw [if_neg c22] at H
                            exact absurd H (by simp)
                        · rw [if_neg c18] at H
                          exact absurd H (by simp)
                      · rw [if_neg c17] at H
                        exact absurd H (by simp)
                    · rw [if_neg c16] at H
                      exact absurd H (by simp)
                  · rw [if_neg c15] at H
                    exact absurd H (by simp)
                · rw [if_neg c11] at H
                  exact absurd H (by simp)
              · rw [if_neg c10] at H
                have c10b0 : decide (x7_2 < (a0.size : Int)) = false := decide_eq_false c10
                clear c10
                by_cases c27 : x6_2.size + 1 ≤ 9223372036854775807
                · rw [if_pos c27] at H
                  have c27b0 := eq_true c27
                  have c27b1 : decide (x6_2.size + 1 ≤ 9223372036854775807) = true := decide_eq_true c27
                  try have c27b2 : (9223372036854775807 < x6_2.size + 1) = False := eq_false (Nat.not_lt.2 c27)
                  replace H := Option.bind_eq_some_iff.mp H
                  obtain ⟨⟨t162, t163, t164⟩, A280, H⟩ := H
                  replace H : (if x6_2.size + x6_2.size ≤ 9223372036854775807 then ((path_Parse.f k2 (x6_2 ++ x6_2)).bind fun bt165 => (if t164 = 0 then (if t162.toList = a0.toList then (if t163.toList = ([] : List UInt8) then (if bt165.2.2 = 0 then (if bt165.1.toList = a0.toList then (some (bt165.2.1.toList == a0.toList)) else (some false)) else (some false)) else (some false)) else (some false)) else (some false))) else (none)) = some r := H
                  have A28 := Aside0.mk A280
                  clear A280
                  by_cases c29 : x6_2.size + x6_2.size ≤ 9223372036854775807
                  · rw [if_pos c29] at H
                    have c29b0 := eq_true c29
                    have c29b1 : decide (x6_2.size + x6_2.size ≤ 9223372036854775807) = true := decide_eq_true c29
                    try have c29b2 : (9223372036854775807 < x6_2.size + x6_2.size) = False := eq_false (Nat.not_lt.2 c29)
                    replace H := Option.bind_eq_some_iff.mp H
                    obtain ⟨⟨t165, t166, t167⟩, A300, H⟩ := H
                    replace H : (if t164 = 0 then (if t162.toList = a0.toList then (if t163.toList = ([] : List UInt8) then (if t167 = 0 then (if t165.toList = a0.toList then (some (t166.toList == a0.toList)) else (some false)) else (some false)) else (some false)) else (some false)) else (some false)) = some r := H
                    have A30 := Aside0.mk A300
                    clear A300
                    by_cases c31 : t164 = 0
                    · rw [if_pos c31] at H
                      have c31b0 : (t164 == 0) = true := beq_iff_eq.mpr c31
                      have c31b1 : (t164 != 0) = false := bne_eq_false_iff_eq.mpr c31
                      clear c31
                      by_cases c32 : t162.toList = a0.toList
                      · rw [if_pos c32] at H
                        have c32b0 : (t162.toList == a0.toList) = true := beq_iff_eq.mpr c32
                        have c32b1 : (t162.toList != a0.toList) = false := bne_eq_false_iff_eq.mpr c32
                        clear c32
                        by_cases c33 : t163.toList = ([] : List UInt8)
                        · rw [if_pos c33] at H
                          have c33b0 : (t163.toList == ([] : List UInt8)) = true := beq_iff_eq.mpr c33
                          have c33b1 : (t163.toList != ([] : List UInt8)) = false := bne_eq_false_iff_eq.mpr c33
                          clear c33
                          by_cases c34 : t167 = 0
                          · rw [if_pos c34] at H
                            have c34b0 : (t167 == 0) = true := beq_iff_eq.mpr c34
                            have c34b1 : (t167 != 0) = false := bne_eq_false_iff_eq.mpr c34
                            clear c34
                            by_cases c35 : t165.toList = a0.toList
                            · rw [if_pos c35] at H
                              have c35b0 : (t165.toList == a0.toList) = true := beq_iff_eq.mpr c35
                              have c35b1 : (t165.toList != a0.toList) = false := bne_eq_false_iff_eq.mpr c35
                              clear c35
                              obtain rfl := Option.some.inj H
                              go_wp2_with (first | (go_at_call 13; (with_reducible refine (path_Parse.calls k2 (x6_2 ++ (⟨#[47]⟩ : ByteArray)) t162 t163 t164 _ (env_at HE.out (by repeat (first | (with_reducible first | exact HB.out | apply below_alloc | apply pw_below_drewN | apply below_drew1) | exact HB.out))) A28.out).mono ?_); rintro e w36 ⟨rfl, hb⟩; have n0_ := Aside0.mk (below_step (by repeat (first | (with_reducible first | exact HB.out | apply below_alloc | apply pw_below_drewN | apply below_drew1) | exact HB.out)) hb); clear HB; have HB := n0_; clear n0_; (try clear hb); (try clear hb2); (try clear hk); (try clear hi)) | (go_at_call 13; (with_reducible refine (path_Parse.calls k2 (x6_2 ++ x6_2) t165 t166 t167 _ (env_at HE.out (by repeat (first | (with_reducible first | exact HB.out | apply below_alloc | apply pw_below_drewN | apply below_drew1) | exact HB.out))) A30.out).mono ?_); rintro e w37 ⟨rfl, hb⟩; have n0_ := Aside0.mk (below_step (by repeat (first | (with_reducible first | exact HB.out | apply below_alloc | apply pw_below_drewN | apply below_drew1) | exact HB.out)) hb); clear HB; have HB := n0_; clear n0_; (try clear hb); (try clear hb2); (try clear hk); (try clear hi)))
                              repeat (go_quiet (first | (go_at_call 13; (with_reducible refine (path_Parse.calls k2 (x6_2 ++ (⟨#[47]⟩ : ByteArray)) t162 t163 t164 _ (env_at HE.out (by repeat (first | (with_reducible first | exact HB.out | apply below_alloc | apply pw_below_drewN | apply below_drew1) | exact HB.out))) A28.out).mono ?_); rintro e w36 ⟨rfl, hb⟩; have n0_ := Aside0.mk (below_step (by repeat (first | (with_reducible first | exact HB.out | apply below_alloc | apply pw_below_drewN | apply below_drew1) | exact HB.out)) hb); clear HB; have HB := n0_; clear n0_; (try clear hb); (try clear hb2); (try clear hk); (try clear hi)) | (go_at_call 13; (with_reducible refine (path_Parse.calls k2 (x6_2 ++ x6_2) t165 t166 t167 _ (env_at HE.out (by repeat (first | (with_reducible first | exact HB.out | apply below_alloc | apply pw_below_drewN | apply below_drew1) | exact HB.out))) A30.out).mono ?_); rintro e w37 ⟨rfl, hb⟩; have n0_ := Aside0.mk (below_step (by repeat (first | (with_reducible first | exact HB.out | apply below_alloc | apply pw_below_drewN | apply below_drew1) | exact HB.out)) hb); clear HB; have HB := n0_; clear n0_; (try clear hb); (try clear hb2); (try clear hk); (try clear hi))); try go_wp2_with (first | (go_at_call 13; (with_reducible refine (path_Parse.calls k2 (x6_2 ++ (⟨#[47]⟩ : ByteArray)) t162 t163 t164 _ (env_at HE.out (by repeat (first | (with_reducible first | exact HB.out | apply below_alloc | apply pw_below_drewN | apply below_drew1) | exact HB.out))) A28.out).mono ?_); rintro e w36 ⟨rfl, hb⟩; have n0_ := Aside0.mk (below_step (by repeat (first | (with_reducible first | exact HB.out | apply below_alloc | apply pw_below_drewN | apply below_drew1) | exact HB.out)) hb); clear HB; have HB := n0_; clear n0_; (try clear hb); (try clear hb2); (try clear hk); (try clear hi)) | (go_at_call 13; (with_reducible refine (path_Parse.calls k2 (x6_2 ++ x6_2) t165 t166 t167 _ (env_at HE.out (by repeat (first | (with_reducible first | exact HB.out | apply below_alloc | apply pw_below_drewN | apply below_drew1) | exact HB.out))) A30.out).mono ?_); rintro e w37 ⟨rfl, hb⟩; have n0_ := Aside0.mk (below_step (by repeat (first | (with_reducible first | exact HB.out | apply below_alloc | apply pw_below_drewN | apply below_drew1) | exact HB.out)) hb); clear HB; have HB := n0_; clear n0_; (try clear hb); (try clear hb2); (try clear hk); (try clear hi))))
                              go_ret
                              exact ⟨by first | rfl | (simp [errW_none, errW_some] <;> rfl) | (simp [*, errW_none, errW_some] <;> rfl), by repeat (first | (with_reducible first | exact HB.out | apply below_alloc | apply pw_below_drewN | apply below_drew1) | exact HB.out)⟩
                            · rw [if_neg c35] at H
                              have c35b0 : (t165.toList == a0.toList) = false := beq_eq_false_iff_ne.mpr c35
                              have c35b1 : (t165.toList != a0.toList) = true := bne_iff_ne.mpr c35
                              obtain rfl := Option.some.inj H
                              go_wp2_with (first | (go_at_call 13; (with_reducible refine (path_Parse.calls k2 (x6_2 ++ (⟨#[47]⟩ : ByteArray)) t162 t163 t164 _ (env_at HE.out (by repeat (first | (with_reducible first | exact HB.out | apply below_alloc | apply pw_below_drewN | apply below_drew1) | exact HB.out))) A28.out).mono ?_); rintro e w38 ⟨rfl, hb⟩; have n0_ := Aside0.mk (below_step (by repeat (first | (with_reducible first | exact HB.out | apply below_alloc | apply pw_below_drewN | apply below_drew1) | exact HB.out)) hb); clear HB; have HB := n0_; clear n0_; (try clear hb); (try clear hb2); (try clear hk); (try clear hi)) | (go_at_call 13; (with_reducible refine (path_Parse.calls k2 (x6_2 ++ x6_2) t165 t166 t167 _ (env_at HE.out (by repeat (first | (with_reducible first | exact HB.out | apply below_alloc | apply pw_below_drewN | apply below_drew1) | exact HB.out))) A30.out).mono ?_); rintro e w39 ⟨rfl, hb⟩; have n0_ := Aside0.mk (below_step (by repeat (first | (with_reducible first | exact HB.out | apply below_alloc | apply pw_below_drewN | apply below_drew1) | exact HB.out)) hb); clear HB; have HB := n0_; clear n0_; (try clear hb); (try clear hb2); (try clear hk); (try clear hi)))
                              repeat (go_quiet (first | (go_at_call 13; (with_reducible refine (path_Parse.calls k2 (x6_2 ++ (⟨#[47]⟩ : ByteArray)) t162 t163 t164 _ (env_at HE.out (by repeat (first | (with_reducible first | exact HB.out | apply below_alloc | apply pw_below_drewN | apply below_drew1) | exact HB.out))) A28.out).mono ?_); rintro e w38 ⟨rfl, hb⟩; have n0_ := Aside0.mk (below_step (by repeat (first | (with_reducible first | exact HB.out | apply below_alloc | apply pw_below_drewN | apply below_drew1) | exact HB.out)) hb); clear HB; have HB := n0_; clear n0_; (try clear hb); (try clear hb2); (try clear hk); (try clear hi)) | (go_at_call 13; (with_reducible refine (path_Parse.calls k2 (x6_2 ++ x6_2) t165 t166 t167 _ (env_at HE.out (by repeat (first | (with_reducible first | exact HB.out | apply below_alloc | apply pw_below_drewN | apply below_drew1) | exact HB.out))) A30.out).mono ?_); rintro e w39 ⟨rfl, hb⟩; have n0_ := Aside0.mk (below_step (by repeat (first | (with_reducible first | exact HB.out | apply below_alloc | apply pw_below_drewN | apply below_drew1) | exact HB.out)) hb); clear HB; have HB := n0_; clear n0_; (try clear hb); (try clear hb2); (try clear hk); (try clear hi))); try go_wp2_with (first | (go_at_call 13; (with_reducible refine (path_Parse.calls k2 (x6_2 ++ (⟨#[47]⟩ : ByteArray)) t162 t163 t164 _ (env_at HE.out (by repeat (first | (with_reducible first | exact HB.out | apply below_alloc | apply pw_below_drewN | apply below_drew1) | exact HB.out))) A28.out).mono ?_); rintro e w38 ⟨rfl, hb⟩; have n0_ := Aside0.mk (below_step (by repeat (first | (with_reducible first | exact HB.out | apply below_alloc | apply pw_below_drewN | apply below_drew1) | exact HB.out)) hb); clear HB; have HB := n0_; clear n0_; (try clear hb); (try clear hb2); (try clear hk); (try clear hi)) | (go_at_call 13; (with_reducible refine (path_Parse.calls k2 (x6_2 ++ x6_2) t165 t166 t167 _ (env_at HE.out (by repeat (first | (with_reducible first | exact HB.out | apply below_alloc | apply pw_below_drewN | apply below_drew1) | exact HB.out))) A30.out).mono ?_); rintro e w39 ⟨rfl, hb⟩; have n0_ := Aside0.mk (below_step (by repeat (first | (with_reducible first | exact HB.out | apply below_alloc | apply pw_below_drewN | apply below_drew1) | exact HB.out)) hb); clear HB; have HB := n0_; clear n0_; (try clear hb); (try clear hb2); (try clear hk); (try clear hi))))
                              go_ret
                              exact ⟨by first | rfl | (simp [errW_none, errW_some] <;> rfl) | (simp [*, errW_none, errW_some] <;> rfl), by repeat (first | (with_reducible first | exact HB.out | apply below_alloc | apply pw_below_drewN | apply below_drew1) | exact HB.out)⟩
                          · rw [if_neg c34] at H
                            have c34b0 : (t167 == 0) = false := beq_eq_false_iff_ne.mpr c34
                            have c34b1 : (t167 != 0) = true := bne_iff_ne.mpr c34
                            obtain rfl := Option.some.inj H
                            go_wp2_with (first | (go_at_call 13; (with_reducible refine (path_Parse.calls k2 (x6_2 ++ (⟨#[47]⟩ : ByteArray)) t162 t163 t164 _ (env_at HE.out (by repeat (first | (with_reducible first | exact HB.out | apply below_alloc | apply pw_below_drewN | apply below_drew1) | exact HB.out))) A28.out).mono ?_); rintro e w40 ⟨rfl, hb⟩; have n0_ := Aside0.mk (below_step (by repeat (first | (with_reducible first | exact HB.out | apply below_alloc | apply pw_below_drewN | apply below_drew1) | exact HB.out)) hb); clear HB; have HB := n0_; clear n0_; (try clear hb); (try clear hb2); (try clear hk); (try clear hi)) | (go_at_call 13; (with_reducible refine (path_Parse.calls k2 (x6_2 ++ x6_2) t165 t166 t167 _ (env_at HE.out (by repeat (first | (with_reducible first | exact HB.out | apply below_alloc | apply pw_below_drewN | apply below_drew1) | exact HB.out))) A30.out).mono ?_); rintro e w41 ⟨rfl, hb⟩; have n0_ := Aside0.mk (below_step (by repeat (first | (with_reducible first | exact HB.out | apply below_alloc | apply pw_below_drewN | apply below_drew1) | exact HB.out)) hb); clear HB; have HB := n0_; clear n0_; (try clear hb); (try clear hb2); (try clear hk); (try clear hi)))
                            repeat (go_quiet (first | (go_at_call 13; (with_reducible refine (path_Parse.calls k2 (x6_2 ++ (⟨#[47]⟩ : ByteArray)) t162 t163 t164 _ (env_at HE.out (by repeat (first | (with_reducible first | exact HB.out | apply below_alloc | apply pw_below_drewN | apply below_drew1) | exact HB.out))) A28.out).mono ?_); rintro e w40 ⟨rfl, hb⟩; have n0_ := Aside0.mk (below_step (by repeat (first | (with_reducible first | exact HB.out | apply below_alloc | apply pw_below_drewN | apply below_drew1) | exact HB.out)) hb); clear HB; have HB := n0_; clear n0_; (try clear hb); (try clear hb2); (try clear hk); (try clear hi)) | (go_at_call 13; (with_reducible refine (path_Parse.calls k2 (x6_2 ++ x6_2) t165 t166 t167 _ (env_at HE.out (by repeat (first | (with_reducible first | exact HB.out | apply below_alloc | apply pw_below_drewN | apply below_drew1) | exact HB.out))) A30.out).mono ?_); rintro e w41 ⟨rfl, hb⟩; have n0_ := Aside0.mk (below_step (by repeat (first | (with_reducible first | exact HB.out | apply below_alloc | apply pw_below_drewN | apply below_drew1) | exact HB.out)) hb); clear HB; have HB := n0_; clear n0_; (try clear hb); (try clear hb2); (try clear hk); (try clear hi))); try go_wp2_with (first | (go_at_call 13; (with_reducible refine (path_Parse.calls k2 (x6_2 ++ (⟨#[47]⟩ : ByteArray)) t162 t163 t164 _ (env_at HE.out (by repeat (first | (with_reducible first | exact HB.out | apply below_alloc | apply pw_below_drewN | apply below_drew1) | exact HB.out))) A28.out).mono ?_); rintro e w40 ⟨rfl, hb⟩; have n0_ := Aside0.mk (below_step (by repeat (first | (with_reducible first | exact HB.out | apply below_alloc | apply pw_below_drewN | apply below_drew1) | exact HB.out)) hb); clear HB; have HB := n0_; clear n0_; (try clear hb); (try clear hb2); (try clear hk); (try clear hi)) | (go_at_call 13; (with_reducible refine (path_Parse.calls k2 (x6_2 ++ x6_2) t165 t166 t167 _ (env_at HE.out (by repeat (first | (with_reducible first | exact HB.out | apply below_alloc | apply pw_below_drewN | apply below_drew1) | exact HB.out))) A30.out).mono ?_); rintro e w41 ⟨rfl, hb⟩; have n0_ := Aside0.mk (below_step (by repeat (first | (with_reducible first | exact HB.out | apply below_alloc | apply pw_below_drewN | apply below_drew1) | exact HB.out)) hb); clear HB; have HB := n0_; clear n0_; (try clear hb); (try clear hb2); (try clear hk); (try clear hi))))
                            go_ret
                            exact ⟨by first | rfl | (simp [errW_none, errW_some] <;> rfl) | (simp [*, errW_none, errW_some] <;> rfl), by repeat (first | (with_reducible first | exact HB.out | apply below_alloc | apply pw_below_drewN | apply below_drew1) | exact HB.out)⟩
                        · rw [if_neg c33] at H
                          have c33b0 : (t163.toList == ([] : List UInt8)) = false := beq_eq_false_iff_ne.mpr c33
                          have c33b1 : (t163.toList != ([] : List UInt8)) = true := bne_iff_ne.mpr c33
                          obtain rfl := Option.some.inj H
                          go_wp2_with (first | (go_at_call 13; (with_reducible refine (path_Parse.calls k2 (x6_2 ++ (⟨#[47]⟩ : ByteArray)) t162 t163 t164 _ (env_at HE.out (by repeat (first | (with_reducible first | exact HB.out | apply below_alloc | apply pw_below_drewN | apply below_drew1) | exact HB.out))) A28.out).mono ?_); rintro e w42 ⟨rfl, hb⟩; have n0_ := Aside0.mk (below_step (by repeat (first | (with_reducible first | exact HB.out | apply below_alloc | apply pw_below_drewN | apply below_drew1) | exact HB.out)) hb); clear HB; have HB := n0_; clear n0_; (try clear hb); (try clear hb2); (try clear hk); (try clear hi)) | (go_at_call 13; (with_reducible refine (path_Parse.calls k2 (x6_2 ++ x6_2) t165 t166 t167 _ (env_at HE.out (by repeat (first | (with_reducible first | exact HB.out | apply below_alloc | apply pw_below_drewN | apply below_drew1) | exact HB.out))) A30.out).mono ?_); rintro e w43 ⟨rfl, hb⟩; have n0_ := Aside0.mk (below_step (by repeat (first | (with_reducible first | exact HB.out | apply below_alloc | apply pw_below_drewN | apply below_drew1) | exact HB.out)) hb); clear HB; have HB := n0_; clear n0_; (try clear hb); (try clear hb2); (try clear hk); (try clear hi)))
                          repeat (go_quiet (first | (go_at_call 13; (with_reducible refine (path_Parse.calls k2 (x6_2 ++ (⟨#[47]⟩ : ByteArray)) t162 t163 t164 _ (env_at HE.out (by repeat (first | (with_reducible first | exact HB.out | apply below_alloc | apply pw_below_drewN | apply below_drew1) | exact HB.out))) A28.out).mono ?_); rintro e w42 ⟨rfl, hb⟩; have n0_ := Aside0.mk (below_step (by repeat (first | (with_reducible first | exact HB.out | apply below_alloc | apply pw_below_drewN | apply below_drew1) | exact HB.out)) hb); clear HB; have HB := n0_; clear n0_; (try clear hb); (try clear hb2); (try clear hk); (try clear hi)) | (go_at_call 13; (with_reducible refine (path_Parse.calls k2 (x6_2 ++ x6_2) t165 t166 t167 _ (env_at HE.out (by repeat (first | (with_reducible first | exact HB.out | apply below_alloc | apply pw_below_drewN | apply below_drew1) | exact HB.out))) A30.out).mono ?_); rintro e w43 ⟨rfl, hb⟩; have n0_ := Aside0.mk (below_step (by repeat (first | (with_reducible first | exact HB.out | apply below_alloc | apply pw_below_drewN | apply below_drew1) | exact HB.out)) hb); clear HB; have HB := n0_; clear n0_; (try clear hb); (try clear hb2); (try clear hk); (try clear hi))); try go_wp2_with (first | (go_at_call 13; (with_reducible refine (path_Parse.calls k2 (x6_2 ++ (⟨#[47]⟩ : ByteArray)) t162 t163 t164 _ (env_at HE.out (by repeat (first | (with_reducible first | exact HB.out | apply below_alloc | apply pw_below_drewN | apply below_drew1) | exact HB.out))) A28.out).mono ?_); rintro e w42 ⟨rfl, hb⟩; have n0_ := Aside0.mk (below_step (by repeat (first | (with_reducible first | exact HB.out | apply below_alloc | apply pw_below_drewN | apply below_drew1) | exact HB.out)) hb); clear HB; have HB := n0_; clear n0_; (try clear hb); (try clear hb2); (try clear hk); (try clear hi)) | (go_at_call 13; (with_reducible refine (path_Parse.calls k2 (x6_2 ++ x6_2) t165 t166 t167 _ (env_at HE.out (by repeat (first | (with_reducible first | exact HB.out | apply below_alloc | apply pw_below_drewN | apply below_drew1) | exact HB.out))) A30.out).mono ?_); rintro e w43 ⟨rfl, hb⟩; have n0_ := Aside0.mk (below_step (by repeat (first | (with_reducible first | exact HB.out | apply below_alloc | apply pw_below_drewN | apply below_drew1) | exact HB.out)) hb); clear HB; have HB := n0_; clear n0_; (try clear hb); (try clear hb2); (try clear hk); (try clear hi))))
                          go_ret
                          exact ⟨by first | rfl | (simp [errW_none, errW_some] <;> rfl) | (simp [*, errW_none, errW_some] <;> rfl), by repeat (first | (with_reducible first | exact HB.out | apply below_alloc | apply pw_below_drewN | apply below_drew1) | exact HB.out)⟩
                      · rw [if_neg c32] at H
                        have c32b0 : (t162.toList == a0.toList) = false := beq_eq_false_iff_ne.mpr c32
                        have c32b1 : (t162.toList != a0.toList) = true := bne_iff_ne.mpr c32
                        obtain rfl := Option.some.inj H
                        go_wp2_with (first | (go_at_call 13; (with_reducible refine (path_Parse.calls k2 (x6_2 ++ (⟨#[47]⟩ : ByteArray)) t162 t163 t164 _ (env_at HE.out (by repeat (first | (with_reducible first | exact HB.out | apply below_alloc | apply pw_below_drewN | apply below_drew1) | exact HB.out))) A28.out).mono ?_); rintro e w44 ⟨rfl, hb⟩; have n0_ := Aside0.mk (below_step (by repeat (first | (with_reducible first | exact HB.out | apply below_alloc | apply pw_below_drewN | apply below_drew1) | exact HB.out)) hb); clear HB; have HB := n0_; clear n0_; (try clear hb); (try clear hb2); (try clear hk); (try clear hi)) | (go_at_call 13; (with_reducible refine (path_Parse.calls k2 (x6_2 ++ x6_2) t165 t166 t167 _ (env_at HE.out (by repeat (first | (with_reducible first | exact HB.out | apply below_alloc | apply pw_below_drewN | apply below_drew1) | exact HB.out))) A30.out).mono ?_); rintro e w45 ⟨rfl, hb⟩; have n0_ := Aside0.mk (below_step (by repeat (first | (with_reducible first | exact HB.out | apply below_alloc | apply pw_below_drewN | apply below_drew1) | exact HB.out)) hb); clear HB; have HB := n0_; clear n0_; (try clear hb); (try clear hb2); (try clear hk); (try clear hi)))
                        repeat (go_quiet (first | (go_at_call 13; (with_reducible refine (path_Parse.calls k2 (x6_2 ++ (⟨#[47]⟩ : ByteArray)) t162 t163 t164 _ (env_at HE.out (by repeat (first | (with_reducible first | exact HB.out | apply below_alloc | apply pw_below_drewN | apply below_drew1) | exact HB.out))) A28.out).mono ?_); rintro e w44 ⟨rfl, hb⟩; have n0_ := Aside0.mk (below_step (by repeat (first | (with_reducible first | exact HB.out | apply below_alloc | apply pw_below_drewN | apply below_drew1) | exact HB.out)) hb); clear HB; have HB := n0_; clear n0_; (try clear hb); (try clear hb2); (try clear hk); (try clear hi)) | (go_at_call 13; (with_reducible refine (path_Parse.calls k2 (x6_2 ++ x6_2) t165 t166 t167 _ (env_at HE.out (by repeat (first | (with_reducible first | exact HB.out | apply below_alloc | apply pw_below_drewN | apply below_drew1) | exact HB.out))) A30.out).mono ?_); rintro e w45 ⟨rfl, hb⟩; have n0_ := Aside0.mk (below_step (by repeat (first | (with_reducible first | exact HB.out | apply below_alloc | apply pw_below_drewN | apply below_drew1) | exact HB.out)) hb); clear HB; have HB := n0_; clear n0_; (try clear hb); (try clear hb2); (try clear hk); (try clear hi))); try go_wp2_with (first | (go_at_call 13; (with_reducible refine (path_Parse.calls k2 (x6_2 ++ (⟨#[47]⟩ : ByteArray)) t162 t163 t164 _ (env_at HE.out (by repeat (first | (with_reducible first | exact HB.out | apply below_alloc | apply pw_below_drewN | apply below_drew1) | exact HB.out))) A28.out).mono ?_); rintro e w44 ⟨rfl, hb⟩; have n0_ := Aside0.mk (below_step (by repeat (first | (with_reducible first | exact HB.out | apply below_alloc | apply pw_below_drewN | apply below_drew1) | exact HB.out)) hb); clear HB; have HB := n0_; clear n0_; (try clear hb); (try clear hb2); (try clear hk); (try clear hi)) | (go_at_call 13; (with_reducible refine (path_Parse.calls k2 (x6_2 ++ x6_2) t165 t166 t167 _ (env_at HE.out (by repeat (first | (with_reducible first | exact HB.out | apply below_alloc | apply pw_below_drewN | apply below_drew1) | exact HB.out))) A30.out).mono ?_); rintro e w45 ⟨rfl, hb⟩; have n0_ := Aside0.mk (below_step (by repeat (first | (with_reducible first | exact HB.out | apply below_alloc | apply pw_below_drewN | apply below_drew1) | exact HB.out)) hb); clear HB; have HB := n0_; clear n0_; (try clear hb); (try clear hb2); (try clear hk); (try clear hi))))
                        go_ret
                        exact ⟨by first | rfl | (simp [errW_none, errW_some] <;> rfl) | (simp [*, errW_none, errW_some] <;> rfl), by repeat (first | (with_reducible first | exact HB.out | apply below_alloc | apply pw_below_drewN | apply below_drew1) | exact HB.out)⟩
                    · rw [if_neg c31] at H
                      have c31b0 : (t164 == 0) = false := beq_eq_false_iff_ne.mpr c31
                      have c31b1 : (t164 != 0) = true := bne_iff_ne.mpr c31
                      obtain rfl := Option.some.inj H
                      go_wp2_with (first | (go_at_call 13; (with_reducible refine (path_Parse.calls k2 (x6_2 ++ (⟨#[47]⟩ : ByteArray)) t162 t163 t164 _ (env_at HE.out (by repeat (first | (with_reducible first | exact HB.out | apply below_alloc | apply pw_below_drewN | apply below_drew1) | exact HB.out))) A28.out).mono ?_); rintro e w46 ⟨rfl, hb⟩; have n0_ := Aside0.mk (below_step (by repeat (first | (with_reducible first | exact HB.out | apply below_alloc | apply pw_below_drewN | apply below_drew1) | exact HB.out)) hb); clear HB; have HB := n0_; clear n0_; (try clear hb); (try clear hb2); (try clear hk); (try clear hi)) | (go_at_call 13; (with_reducible refine (path_Parse.calls k2 (x6_2 ++ x6_2) t165 t166 t167 _ (env_at HE.out (by repeat (first | (with_reducible first | exact HB.out | apply below_alloc | apply pw_below_drewN | apply below_drew1) | exact HB.out))) A30.out).mono ?_); rintro e w47 ⟨rfl, hb⟩; have n0_ := Aside0.mk (below_step (by repeat (first | (with_reducible first | exact HB.out | apply below_alloc | apply pw_below_drewN | apply below_drew1) | exact HB.out)) hb); clear HB; have HB := n0_; clear n0_; (try clear hb); (try clear hb2); (try clear hk); (try clear hi)))
                      repeat (go_quiet (first | (go_at_call 13; (with_reducible refine (path_Parse.calls k2 (x6_2 ++ (⟨#[47]⟩ : ByteArray)) t162 t163 t164 _ (env_at HE.out (by repeat (first | (with_reducible first | exact HB.out | apply below_alloc | apply pw_below_drewN | apply below_drew1) | exact HB.out))) A28.out).mono ?_); rintro e w46 ⟨rfl, hb⟩; have n0_ := Aside0.mk (below_step (by repeat (first | (with_reducible first | exact HB.out | apply below_alloc | apply pw_below_drewN | apply below_drew1) | exact HB.out)) hb); clear HB; have HB := n0_; clear n0_; (try clear hb); (try clear hb2); (try clear hk); (try clear hi)) | (go_at_call 13; (with_reducible refine (path_Parse.calls k2 (x6_2 ++ x6_2) t165 t166 t167 _ (env_at HE.out (by repeat (first | (with_reducible first | exact HB.out | apply below_alloc | apply pw_below_drewN | apply below_drew1) | exact HB.out))) A30.out).mono ?_); rintro e w47 ⟨rfl, hb⟩; have n0_ := Aside0.mk (below_step (by repeat (first | (with_reducible first | exact HB.out | apply below_alloc | apply pw_below_drewN | apply below_drew1) | exact HB.out)) hb); clear HB; have HB := n0_; clear n0_; (try clear hb); (try clear hb2); (try clear hk); (try clear hi))); try go_wp2_with (first | (go_at_call 13; (with_reducible refine (path_Parse.calls k2 (x6_2 ++ (⟨#[47]⟩ : ByteArray)) t162 t163 t164 _ (env_at HE.out (by repeat (first | (with_reducible first | exact HB.out | apply below_alloc | apply pw_below_drewN | apply below_drew1) | exact HB.out))) A28.out).mono ?_); rintro e w46 ⟨rfl, hb⟩; have n0_ := Aside0.mk (below_step (by repeat (first | (with_reducible first | exact HB.out | apply below_alloc | apply pw_below_drewN | apply below_drew1) | exact HB.out)) hb); clear HB; have HB := n0_; clear n0_; (try clear hb); (try clear hb2); (try clear hk); (try clear hi)) | (go_at_call 13; (with_reducible refine (path_Parse.calls k2 (x6_2 ++ x6_2) t165 t166 t167 _ (env_at HE.out (by repeat (first | (with_reducible first | exact HB.out | apply below_alloc | apply pw_below_drewN | apply below_drew1) | exact HB.out))) A30.out).mono ?_); rintro e w47 ⟨rfl, hb⟩; have n0_ := Aside0.mk (below_step (by repeat (first | (with_reducible first | exact HB.out | apply below_alloc | apply pw_below_drewN | apply below_drew1) | exact HB.out)) hb); clear HB; have HB := n0_; clear n0_; (try clear hb); (try clear hb2); (try clear hk); (try clear hi))))
                      go_ret
                      exact ⟨by first | rfl | (simp [errW_none, errW_some] <;> rfl) | (simp [*, errW_none, errW_some] <;> rfl), by repeat (first | (with_reducible first | exact HB.out | apply below_alloc | apply pw_below_drewN | apply below_drew1) | exact HB.out)⟩
                  · rw [if_neg c29] at H
                    exact absurd H (by simp)
                · rw [if_neg c27] at H
                  exact absurd H (by simp)
    · replace c6 := Bool.eq_false_iff.mpr c6
      subst c6
      have H1 : (some true) = some r := by rw [if_neg (show ¬ (false = true) by decide)] at H; exact H
      clear H
      have H := H1
      clear H1
      obtain rfl := Option.some.inj H
      go_enter Tryd.func6, Tryd.ntmps6
      go_wp2_with (first | (go_at_call 7; (with_reducible refine (calepinlaw06_first.calls k  true _ (env_at HE.out (by repeat (first | (with_reducible first | exact HB.out | apply below_alloc | apply pw_below_drewN | apply below_drew1) | exact HB.out))) A3.out).mono ?_); rintro e w48 ⟨rfl, hb⟩; have n0_ := Aside0.mk (below_step (by repeat (first | (with_reducible first | exact HB.out | apply below_alloc | apply pw_below_drewN | apply below_drew1) | exact HB.out)) hb); clear HB; have HB := n0_; clear n0_; (try clear hb); (try clear hb2); (try clear hk); (try clear hi)) | (go_at_call 9; (with_reducible refine (calepinref06_Fits.calls k a0 false _ A5.out).mono ?_); rintro e w' ⟨rfl, ⟨nd, rfl⟩⟩; (try first | exact ⟨rfl, _, World.drewN_drewN _ _ _⟩ | exact ⟨rfl, _, Eq.trans (World.drewN_drewN _ _ _) (congrArg (World.drewN _) (Nat.add_assoc _ _ _))⟩)))
      repeat (go_quiet (first | (go_at_call 7; (with_reducible refine (calepinlaw06_first.calls k  true _ (env_at HE.out (by repeat (first | (with_reducible first | exact HB.out | apply below_alloc | apply pw_below_drewN | apply below_drew1) | exact HB.out))) A3.out).mono ?_); rintro e w48 ⟨rfl, hb⟩; have n0_ := Aside0.mk (below_step (by repeat (first | (with_reducible first | exact HB.out | apply below_alloc | apply pw_below_drewN | apply below_drew1) | exact HB.out)) hb); clear HB; have HB := n0_; clear n0_; (try clear hb); (try clear hb2); (try clear hk); (try clear hi)) | (go_at_call 9; (with_reducible refine (calepinref06_Fits.calls k a0 false _ A5.out).mono ?_); rintro e w' ⟨rfl, ⟨nd, rfl⟩⟩; (try first | exact ⟨rfl, _, World.drewN_drewN _ _ _⟩ | exact ⟨rfl, _, Eq.trans (World.drewN_drewN _ _ _) (congrArg (World.drewN _) (Nat.add_assoc _ _ _))⟩))); try go_wp2_with (first | (go_at_call 7; (with_reducible refine (calepinlaw06_first.calls k  true _ (env_at HE.out (by repeat (first | (with_reducible first | exact HB.out | apply below_alloc | apply pw_below_drewN | apply below_drew1) | exact HB.out))) A3.out).mono ?_); rintro e w48 ⟨rfl, hb⟩; have n0_ := Aside0.mk (below_step (by repeat (first | (with_reducible first | exact HB.out | apply below_alloc | apply pw_below_drewN | apply below_drew1) | exact HB.out)) hb); clear HB; have HB := n0_; clear n0_; (try clear hb); (try clear hb2); (try clear hk); (try clear hi)) | (go_at_call 9; (with_reducible refine (calepinref06_Fits.calls k a0 false _ A5.out).mono ?_); rintro e w' ⟨rfl, ⟨nd, rfl⟩⟩; (try first | exact ⟨rfl, _, World.drewN_drewN _ _ _⟩ | exact ⟨rfl, _, Eq.trans (World.drewN_drewN _ _ _) (congrArg (World.drewN _) (Nat.add_assoc _ _ _))⟩))))
      go_ret
      exact ⟨by first | rfl | (simp [errW_none, errW_some] <;> rfl) | (simp [*, errW_none, errW_some] <;> rfl), by repeat (first | (with_reducible first | exact HB.out | apply below_alloc | apply pw_below_drewN | apply below_drew1) | exact HB.out)⟩
  · replace c4 := Bool.eq_false_iff.mpr c4
    subst c4
    have H1 : (some false) = some r := by rw [if_neg (show ¬ (false = true) by decide)] at H; exact H
    clear H
    have H := H1
    clear H1
    obtain rfl := Option.some.inj H
    go_enter Tryd.func6, Tryd.ntmps6
    go_wp2_with (first | (go_at_call 7; (with_reducible refine (calepinlaw06_first.calls k  false _ (env_at HE.out (by repeat (first | (with_reducible first | exact HB.out | apply below_alloc | apply pw_below_drewN | apply below_drew1) | exact HB.out))) A3.out).mono ?_); rintro e w49 ⟨rfl, hb⟩; have n0_ := Aside0.mk (below_step (by repeat (first | (with_reducible first | exact HB.out | apply below_alloc | apply pw_below_drewN | apply below_drew1) | exact HB.out)) hb); clear HB; have HB := n0_; clear n0_; (try clear hb); (try clear hb2); (try clear hk); (try clear hi)))
    repeat (go_quiet (first | (go_at_call 7; (with_reducible refine (calepinlaw06_first.calls k  false _ (env_at HE.out (by repeat (first | (with_reducible first | exact HB.out | apply below_alloc | apply pw_below_drewN | apply below_drew1) | exact HB.out))) A3.out).mono ?_); rintro e w49 ⟨rfl, hb⟩; have n0_ := Aside0.mk (below_step (by repeat (first | (with_reducible first | exact HB.out | apply below_alloc | apply pw_below_drewN | apply below_drew1) | exact HB.out)) hb); clear HB; have HB := n0_; clear n0_; (try clear hb); (try clear hb2); (try clear hk); (try clear hi))); try go_wp2_with (first | (go_at_call 7; (with_reducible refine (calepinlaw06_first.calls k  false _ (env_at HE.out (by repeat (first | (with_reducible first | exact HB.out | apply below_alloc | apply pw_below_drewN | apply below_drew1) | exact HB.out))) A3.out).mono ?_); rintro e w49 ⟨rfl, hb⟩; have n0_ := Aside0.mk (below_step (by repeat (first | (with_reducible first | exact HB.out | apply below_alloc | apply pw_below_drewN | apply below_drew1) | exact HB.out)) hb); clear HB; have HB := n0_; clear n0_; (try clear hb); (try clear hb2); (try clear hk); (try clear hi))))
    go_ret
    exact ⟨by first | rfl | (simp [errW_none, errW_some] <;> rfl) | (simp [*, errW_none, errW_some] <;> rfl), by repeat (first | (with_reducible first | exact HB.out | apply below_alloc | apply pw_below_drewN | apply below_drew1) | exact HB.out)⟩

/-! ### calepinref06_Segment: function 10 -/
def calepinref06_Segment.l0 : Nat → ByteArray → ByteArray → Int → Option (ByteArray)
  | 0, _, _, _ => none
  | k + 1, x0, x3, x4 => if x4 < (x0.size : Int) then (if 0 ≤ x4 then ((calepinref06_bare.f (bt x0 x4)).bind fun t168 => (if t168 = true then (if x4 ≤ (wrap64 (x4 + 1)) then (if (wrap64 (x4 + 1)) ≤ (x0.size : Int) then ((some (x0.extract (x4 : Int).toNat ((wrap64 (x4 + 1)) : Int).toNat : ByteArray)).bind fun y169 => (if x3.size + y169.size ≤ 9223372036854775807 then (calepinref06_Segment.l0 k x0 (x3 ++ y169) (wrap64 (x4 + 1))) else (none))) else (none)) else (none)) else (if 0 ≤ ((Int.tdiv (bt x0 x4) 16) % 256) then (if ((Int.tdiv (bt x0 x4) 16) % 256) ≤ ((((Int.tdiv (bt x0 x4) 16) % 256) + 1) % 256) then (if ((((Int.tdiv (bt x0 x4) 16) % 256) + 1) % 256) ≤ 16 then ((some ((⟨#[48, 49, 50, 51, 52, 53, 54, 55, 56, 57, 65, 66, 67, 68, 69, 70]⟩ : ByteArray).extract (((Int.tdiv (bt x0 x4) 16) % 256) : Int).toNat (((((Int.tdiv (bt x0 x4) 16) % 256) + 1) % 256) : Int).toNat : ByteArray)).bind fun y170 => (if 1 + y170.size ≤ 9223372036854775807 then (if 0 ≤ (Int.tmod (bt x0 x4) 16) then (if (Int.tmod (bt x0 x4) 16) ≤ (((Int.tmod (bt x0 x4) 16) + 1) % 256) then (if (((Int.tmod (bt x0 x4) 16) + 1) % 256) ≤ 16 then ((some ((⟨#[48, 49, 50, 51, 52, 53, 54, 55, 56, 57, 65, 66, 67, 68, 69, 70]⟩ : ByteArray).extract ((Int.tmod (bt x0 x4) 16) : Int).toNat ((((Int.tmod (bt x0 x4) 16) + 1) % 256) : Int).toNat : ByteArray)).bind fun y171 => (if ((⟨#[37]⟩ : ByteArray) ++ y170).size + y171.size ≤ 9223372036854775807 then (if x3.size + (((⟨#[37]⟩ : ByteArray) ++ y170) ++ y171).size ≤ 9223372036854775807 then (calepinref06_Segment.l0 k x0 (x3 ++ (((⟨#[37]⟩ : ByteArray) ++ y170) ++ y171)) (wrap64 (x4 + 1))) else (none)) else (none))) else (none)) else (none)) else (none)) else (none))) else (none)) else (none)) else (none)))) else (none)) else (some x3)
def calepinref06_Segment.f (k : Nat) (a0 : ByteArray) : Option (ByteArray) := calepinref06_Segment.l0 k a0 (⟨#[]⟩ : ByteArray) 0
theorem calepinref06_Segment.mono_l : ∀ k, (∀ y0 y1 y2, LeO (calepinref06_Segment.l0 k y0 y1 y2) (calepinref06_Segment.l0 (k + 1) y0 y1 y2))
  | 0 => fun _ _ _ r h => by simp [calepinref06_Segment.l0] at h
  | k + 1 => by
    have ih0 := calepinref06_Segment.mono_l k
    · intro y0 y1 y2
      unfold calepinref06_Segment.l0
      repeat' first
      | (with_reducible exact ih0 _ _ _)
      | (with_reducible exact LeO.refl _)
      | (with_reducible exact LeO.none _)
      | (with_reducible refine LeO.ite ?_ ?_)
      | (with_reducible refine LeO.bind ?_ (fun _ => ?_))
      | exact ih0 _ _ _
      | exact LeO.none _
      | refine LeO.ite ?_ ?_
      | refine LeO.bind ?_ (fun _ => ?_)
theorem calepinref06_Segment.mono : ∀ a0 k, LeO (calepinref06_Segment.f k a0) (calepinref06_Segment.f (k + 1) a0) := by
  intro a0 k
  have ih0 := calepinref06_Segment.mono_l k
  unfold calepinref06_Segment.f
  repeat' first
      | (with_reducible exact ih0 _ _ _)
      | (with_reducible exact LeO.refl _)
      | (with_reducible exact LeO.none _)
      | (with_reducible refine LeO.ite ?_ ?_)
      | (with_reducible refine LeO.bind ?_ (fun _ => ?_))
      | exact ih0 _ _ _
      | exact LeO.none _
      | refine LeO.ite ?_ ?_
      | refine LeO.bind ?_ (fun _ => ?_)
set_option maxHeartbeats 8000000 in
set_option maxRecDepth 100000 in
theorem calepinref06_Segment.calls (k : Nat) (a0 : ByteArray) (r : ByteArray) (w : World) (h : calepinref06_Segment.f k a0 = some r) :
    Calls Tryd.prog 10 #[.string a0] w fun e w' => e = .returned (.string r) ∧ Drawn0 w w' := by
  have H : (calepinref06_Segment.l0 k a0 (⟨#[]⟩ : ByteArray) 0) = some r := h
  clear h
  have H' := Aside0.mk H
  clear H
  go_enter Tryd.func10, Tryd.ntmps10
  go_wp2
  repeat (go_quiet (fail); try go_wp2)
  go_loopg [3, 4] k (fun kq v3 v4 w' => ∃ (x3_1 : ByteArray) (x4_1 : Int), v3 = .string x3_1 ∧ v4 = .int .i64 x4_1 ∧ Aside0 (calepinref06_Segment.l0 kq a0 x3_1 x4_1 = some r) ∧ Aside0 (kq ≤ k) ∧ Drawn0 w w')
  case atStart => exact ⟨((⟨#[]⟩ : ByteArray)), (0), (by first | rfl | (simp; done) | (simp [*]; done) | (simp; exact isEmpty_ne)), (by first | rfl | (simp; done) | (simp [*]; done) | (simp; exact isEmpty_ne)), H', ⟨Nat.le_refl _⟩, by repeat (first | exact Drawn0.refl _ | apply Drawn0.step)⟩
  case round =>
    clear H'
    try clear c1
    obtain ⟨x3_1, x4_1, rfl, rfl, HA, HK1, ⟨m1, rfl⟩⟩ := hrel
    cases gk with
    | zero => exact absurd HA.out (by simp [calepinref06_Segment.l0])
    | succ k1 =>
      have H := HA.out
      clear HA
      simp only [calepinref06_Segment.l0] at H
      by_cases c2 : x4_1 < (a0.size : Int)
      · rw [if_pos c2] at H
        have c2b0 : decide (x4_1 < (a0.size : Int)) = true := decide_eq_true c2
        clear c2
        by_cases c3 : 0 ≤ x4_1
        · rw [if_pos c3] at H
          have c3b0 : decide (0 ≤ x4_1) = true := decide_eq_true c3
          clear c3
          replace H := Option.bind_eq_some_iff.mp H
          obtain ⟨t168, A50, H⟩ := H
          replace H : (if t168 = true then (if x4_1 ≤ (wrap64 (x4_1 + 1)) then (if (wrap64 (x4_1 + 1)) ≤ (a0.size : Int) then ((some (a0.extract (x4_1 : Int).toNat ((wrap64 (x4_1 + 1)) : Int).toNat : ByteArray)).bind fun y169 => (if x3_1.size + y169.size ≤ 9223372036854775807 then (calepinref06_Segment.l0 k1 a0 (x3_1 ++ y169) (wrap64 (x4_1 + 1))) else (none))) else (none)) else (none)) else (if 0 ≤ ((Int.tdiv (bt a0 x4_1) 16) % 256) then (if ((Int.tdiv (bt a0 x4_1) 16) % 256) ≤ ((((Int.tdiv (bt a0 x4_1) 16) % 256) + 1) % 256) then (if ((((Int.tdiv (bt a0 x4_1) 16) % 256) + 1) % 256) ≤ 16 then ((some ((⟨#[48, 49, 50, 51, 52, 53, 54, 55, 56, 57, 65, 66, 67, 68, 69, 70]⟩ : ByteArray).extract (((Int.tdiv (bt a0 x4_1) 16) % 256) : Int).toNat (((((Int.tdiv (bt a0 x4_1) 16) % 256) + 1) % 256) : Int).toNat : ByteArray)).bind fun y170 => (if 1 + y170.size ≤ 9223372036854775807 then (if 0 ≤ (Int.tmod (bt a0 x4_1) 16) then (if (Int.tmod (bt a0 x4_1) 16) ≤ (((Int.tmod (bt a0 x4_1) 16) + 1) % 256) then (if (((Int.tmod (bt a0 x4_1) 16) + 1) % 256) ≤ 16 then ((some ((⟨#[48, 49, 50, 51, 52, 53, 54, 55, 56, 57, 65, 66, 67, 68, 69, 70]⟩ : ByteArray).extract ((Int.tmod (bt a0 x4_1) 16) : Int).toNat ((((Int.tmod (bt a0 x4_1) 16) + 1) % 256) : Int).toNat : ByteArray)).bind fun y171 => (if ((⟨#[37]⟩ : ByteArray) ++ y170).size + y171.size ≤ 9223372036854775807 then (if x3_1.size + (((⟨#[37]⟩ : ByteArray) ++ y170) ++ y171).size ≤ 9223372036854775807 then (calepinref06_Segment.l0 k1 a0 (x3_1 ++ (((⟨#[37]⟩ : ByteArray) ++ y170) ++ y171)) (wrap64 (x4_1 + 1))) else (none)) else (none))) else (none)) else (none)) else (none)) else (none))) else (none)) else (none)) else (none))) = some r := H
          have A5 := Aside0.mk A50
          clear A50
          by_cases c6 : t168 = true
          · subst c6
            have H1 : (if x4_1 ≤ (wrap64 (x4_1 + 1)) then (if (wrap64 (x4_1 + 1)) ≤ (a0.size : Int) then ((some (a0.extract (x4_1 : Int).toNat ((wrap64 (x4_1 + 1)) : Int).toNat : ByteArray)).bind fun y169 => (if x3_1.size + y169.size ≤ 9223372036854775807 then (calepinref06_Segment.l0 k1 a0 (x3_1 ++ y169) (wrap64 (x4_1 + 1))) else (none))) else (none)) else (none)) = some r := by rw [if_pos rfl] at H; exact H
            clear H
            have H := H1
            clear H1
            have c7b0 := eq_true (of_decide_eq_true (by first | (with_reducible assumption) | assumption) : 0 ≤ x4_1)
            by_cases c8 : x4_1 ≤ (wrap64 (x4_1 + 1))
            · rw [if_pos c8] at H
              have c8b0 := eq_true c8
              have c8b1 : decide (x4_1 ≤ (wrap64 (x4_1 + 1))) = true := decide_eq_true c8
              by_cases c9 : (wrap64 (x4_1 + 1)) ≤ (a0.size : Int)
              · rw [if_pos c9] at H
                have c9b0 := eq_true c9
                have c9b1 : decide ((wrap64 (x4_1 + 1)) ≤ (a0.size : Int)) = true := decide_eq_true c9
                obtain ⟨y169, hy169⟩ : ∃ y_ : ByteArray, y_ = (a0.extract (x4_1 : Int).toNat ((wrap64 (x4_1 + 1)) : Int).toNat) := ⟨_, rfl⟩
                replace H : (if x3_1.size + y169.size ≤ 9223372036854775807 then (calepinref06_Segment.l0 k1 a0 (x3_1 ++ y169) (wrap64 (x4_1 + 1))) else (none)) = some r := by first | (rw [hy169]; with_reducible exact H) | (have H2_ := (Option.bind_some _ _).symm.trans H; rw [hy169]; with_reducible exact H2_) | (have H2_ := (Option.bind_some _ _).symm.trans H; with_reducible exact H2_) | with_reducible exact H | (rw [hy169]; exact H) | exact H
                have Ny169 := Aside0.mk hy169
                clear hy169
                have sy169 := Ny169.out.symm
                by_cases c10 : x3_1.size + y169.size ≤ 9223372036854775807
                · rw [if_pos c10] at H
                  have c10b0 := eq_true c10
                  have c10b1 : decide (x3_1.size + y169.size ≤ 9223372036854775807) = true := decide_eq_true c10
                  try have c10b2 : (9223372036854775807 < x3_1.size + y169.size) = False := eq_false (Nat.not_lt.2 c10)
                  have H' := Aside0.mk H
                  clear H
                  have p4 : 0 ≤ (x4_1 : Int) := of_decide_eq_true (by first | (with_reducible assumption) | assumption)
                  have q4 : x4_1 < (a0.size : Int) := of_decide_eq_true (by first | (with_reducible assumption) | assumption)
                  have hx4 := bt_at a0 x4_1
                  replace p4 := eq_true p4
                  replace q4 := eq_true q4
                  go_wp2_with (first | (go_at_call 21; (with_reducible refine (calepinref06_bare.calls (bt a0 x4_1) true _ A5.out).mono ?_); rintro e w' ⟨rfl, ⟨nd, rfl⟩⟩; (try first | exact ⟨rfl, _, World.drewN_drewN _ _ _⟩ | exact ⟨rfl, _, Eq.trans (World.drewN_drewN _ _ _) (congrArg (World.drewN _) (Nat.add_assoc _ _ _))⟩)))
                  repeat (go_quiet (first | (go_at_call 21; (with_reducible refine (calepinref06_bare.calls (bt a0 x4_1) true _ A5.out).mono ?_); rintro e w' ⟨rfl, ⟨nd, rfl⟩⟩; (try first | exact ⟨rfl, _, World.drewN_drewN _ _ _⟩ | exact ⟨rfl, _, Eq.trans (World.drewN_drewN _ _ _) (congrArg (World.drewN _) (Nat.add_assoc _ _ _))⟩))); try go_wp2_with (first | (go_at_call 21; (with_reducible refine (calepinref06_bare.calls (bt a0 x4_1) true _ A5.out).mono ?_); rintro e w' ⟨rfl, ⟨nd, rfl⟩⟩; (try first | exact ⟨rfl, _, World.drewN_drewN _ _ _⟩ | exact ⟨rfl, _, Eq.trans (World.drewN_drewN _ _ _) (congrArg (World.drewN _) (Nat.add_assoc _ _ _))⟩))))
                  go_roundg k1
                  case measure => have := HK1.out; omega
                  case rel => exact ⟨(x3_1 ++ y169), (wrap64 (x4_1 + 1)), (by first | rfl | (simp; done) | (simp [*]; done) | (simp; exact isEmpty_ne)), (by first | rfl | (simp; done) | (simp [*]; done) | (simp; exact isEmpty_ne)), H', ⟨by have := HK1.out; omega⟩, by repeat (first | exact Drawn0.refl _ | apply Drawn0.step)⟩
                · rw [if_neg c10] at H
                  exact absurd H (by simp)
              · rw [if_neg c9] at H
                exact absurd H (by simp)
            · rw [if_neg c8] at H
              exact absurd H (by simp)
          · replace c6 := Bool.eq_false_iff.mpr c6
            subst c6
            have H1 : (if 0 ≤ ((Int.tdiv (bt a0 x4_1) 16) % 256) then (if ((Int.tdiv (bt a0 x4_1) 16) % 256) ≤ ((((Int.tdiv (bt a0 x4_1) 16) % 256) + 1) % 256) then (if ((((Int.tdiv (bt a0 x4_1) 16) % 256) + 1) % 256) ≤ 16 then ((some ((⟨#[48, 49, 50, 51, 52, 53, 54, 55, 56, 57, 65, 66, 67, 68, 69, 70]⟩ : ByteArray).extract (((Int.tdiv (bt a0 x4_1) 16) % 256) : Int).toNat (((((Int.tdiv (bt a0 x4_1) 16) % 256) + 1) % 256) : Int).toNat : ByteArray)).bind fun y170 => (if 1 + y170.size ≤ 9223372036854775807 then (if 0 ≤ (Int.tmod (bt a0 x4_1) 16) then (if (Int.tmod (bt a0 x4_1) 16) ≤ (((Int.tmod (bt a0 x4_1) 16) + 1) % 256) then (if (((Int.tmod (bt a0 x4_1) 16) + 1) % 256) ≤ 16 then ((some ((⟨#[48, 49, 50, 51, 52, 53, 54, 55, 56, 57, 65, 66, 67, 68, 69, 70]⟩ : ByteArray).extract ((Int.tmod (bt a0 x4_1) 16) : Int).toNat ((((Int.tmod (bt a0 x4_1) 16) + 1) % 256) : Int).toNat : ByteArray)).bind fun y171 => (if ((⟨#[37]⟩ : ByteArray) ++ y170).size + y171.size ≤ 9223372036854775807 then (if x3_1.size + (((⟨#[37]⟩ : ByteArray) ++ y170) ++ y171).size ≤ 9223372036854775807 then (calepinref06_Segment.l0 k1 a0 (x3_1 ++ (((⟨#[37]⟩ : ByteArray) ++ y170) ++ y171)) (wrap64 (x4_1 + 1))) else (none)) else (none))) else (none)) else (none)) else (none)) else (none))) else (none)) else (none)) else (none)) = some r := by rw [if_neg (show ¬ (false = true) by decide)] at H; exact H
            clear H
            have H := H1
            clear H1
            obtain ⟨ji13, hji13⟩ : ∃ j_ : Int, ((Int.tdiv (bt a0 x4_1) 16) % 256) = j_ := ⟨_, rfl⟩
            replace H : (if 0 ≤ (ji13) then (if (ji13) ≤ (((ji13) + 1) % 256) then (if (((ji13) + 1) % 256) ≤ 16 then ((some ((⟨#[48, 49, 50, 51, 52, 53, 54, 55, 56, 57, 65, 66, 67, 68, 69, 70]⟩ : ByteArray).extract ((ji13) : Int).toNat ((((ji13) + 1) % 256) : Int).toNat : ByteArray)).bind fun y170 => (if 1 + y170.size ≤ 9223372036854775807 then (if 0 ≤ (Int.tmod (bt a0 x4_1) 16) then (if (Int.tmod (bt a0 x4_1) 16) ≤ (((Int.tmod (bt a0 x4_1) 16) + 1) % 256) then (if (((Int.tmod (bt a0 x4_1) 16) + 1) % 256) ≤ 16 then ((some ((⟨#[48, 49, 50, 51, 52, 53, 54, 55, 56, 57, 65, 66, 67, 68, 69, 70]⟩ : ByteArray).extract ((Int.tmod (bt a0 x4_1) 16) : Int).toNat ((((Int.tmod (bt a0 x4_1) 16) + 1) % 256) : Int).toNat : ByteArray)).bind fun y171 => (if ((⟨#[37]⟩ : ByteArray) ++ y170).size + y171.size ≤ 9223372036854775807 then (if x3_1.size + (((⟨#[37]⟩ : ByteArray) ++ y170) ++ y171).size ≤ 9223372036854775807 then (calepinref06_Segment.l0 k1 a0 (x3_1 ++ (((⟨#[37]⟩ : ByteArray) ++ y170) ++ y171)) (wrap64 (x4_1 + 1))) else (none)) else (none))) else (none)) else (none)) else (none)) else (none))) else (none)) else (none)) else (none)) = some r := by first | (rw [hji13] at H; exact H) | (simp only [hji13] at H ⊢; exact H)
            (try rw [hji13] at A5)
            by_cases c14 : 0 ≤ (ji13)
            · rw [if_pos c14] at H
              have c14b0 := eq_true c14
              have c14b1 : decide (0 ≤ (ji13)) = true := decide_eq_true c14
              clear c14
              by_cases c15 : (ji13) ≤ (((ji13) + 1) % 256)
              · rw [if_pos c15] at H
                have c15b0 := eq_true c15
                have c15b1 : decide ((ji13) ≤ (((ji13) + 1) % 256)) = true := decide_eq_true c15
                by_cases c16 : (((ji13) + 1) % 256) ≤ 16
                · rw [if_pos c16] at H
                  have c16b0 := eq_true c16
                  have c16b1 : decide ((((ji13) + 1) % 256) ≤ 16) = true := decide_eq_true c16
                  obtain ⟨y170, hy170⟩ : ∃ y_ : ByteArray, y_ = ((⟨#[48, 49, 50, 51, 52, 53, 54, 55, 56, 57, 65, 66, 67, 68, 69, 70]⟩ : ByteArray).extract ((ji13) : Int).toNat ((((ji13) + 1) % 256) : Int).toNat) := ⟨_, rfl⟩
                  replace H : (if 1 + y170.size ≤ 9223372036854775807 then (if 0 ≤ (Int.tmod (bt a0 x4_1) 16) then (if (Int.tmod (bt a0 x4_1) 16) ≤ (((Int.tmod (bt a0 x4_1) 16) + 1) % 256) then (if (((Int.tmod (bt a0 x4_1) 16) + 1) % 256) ≤ 16 then ((some ((⟨#[48, 49, 50, 51, 52, 53, 54, 55, 56, 57, 65, 66, 67, 68, 69, 70]⟩ : ByteArray).extract ((Int.tmod (bt a0 x4_1) 16) : Int).toNat ((((Int.tmod (bt a0 x4_1) 16) + 1) % 256) : Int).toNat : ByteArray)).bind fun y171 => (if ((⟨#[37]⟩ : ByteArray) ++ y170).size + y171.size ≤ 9223372036854775807 then (if x3_1.size + (((⟨#[37]⟩ : ByteArray) ++ y170) ++ y171).size ≤ 9223372036854775807 then (calepinref06_Segment.l0 k1 a0 (x3_1 ++ (((⟨#[37]⟩ : ByteArray) ++ y170) ++ y171)) (wrap64 (x4_1 + 1))) else (none)) else (none))) else (none)) else (none)) else (none)) else (none)) = some r := by first | (rw [hy170]; with_reducible exact H) | (have H2_ := (Option.bind_some _ _).symm.trans H; rw [hy170]; with_reducible exact H2_) | (have H2_ := (Option.bind_some _ _).symm.trans H; with_reducible exact H2_) | with_reducible exact H | (rw [hy170]; exact H) | exact H
                  have Ny170 := Aside0.mk hy170
                  clear hy170
                  have sy170 := Ny170.out.symm
                  by_cases c17 : 1 + y170.size ≤ 9223372036854775807
                  · rw [if_pos c17] at H
                    have c17b0 := eq_true c17
                    have c17b1 : decide (1 + y170.size ≤ 9223372036854775807) = true := decide_eq_true c17
                    try have c17b2 : (9223372036854775807 < 1 + y170.size) = False := eq_false (Nat.not_lt.2 c17)
                    obtain ⟨ji20, hji20⟩ : ∃ j_ : Int, (Int.tmod (bt a0 x4_1) 16) = j_ := ⟨_, rfl⟩
                    replace H : (if 0 ≤ (ji20) then (if (ji20) ≤ (((ji20) + 1) % 256) then (if (((ji20) + 1) % 256) ≤ 16 then ((some ((⟨#[48, 49, 50, 51, 52, 53, 54, 55, 56, 57, 65, 66, 67, 68, 69, 70]⟩ : ByteArray).extract ((ji20) : Int).toNat ((((ji20) + 1) % 256) : Int).toNat : ByteArray)).bind fun y171 => (if ((⟨#[37]⟩ : ByteArray) ++ y170).size + y171.size ≤ 9223372036854775807 then (if x3_1.size + (((⟨#[37]⟩ : ByteArray) ++ y170) ++ y171).size ≤ 9223372036854775807 then (calepinref06_Segment.l0 k1 a0 (x3_1 ++ (((⟨#[37]⟩ : ByteArray) ++ y170) ++ y171)) (wrap64 (x4_1 + 1))) else (none)) else (none))) else (none)) else (none)) else (none)) = some r := by first | (rw [hji20] at H; exact H) | (simp only [hji20] at H ⊢; exact H)
                    (try rw [hji20] at A5)
                    by_cases c21 : 0 ≤ (ji20)
                    · rw [if_pos c21] at H
                      have c21b0 := eq_true c21
                      have c21b1 : decide (0 ≤ (ji20)) = true := decide_eq_true c21
                      clear c21
                      by_cases c22 : (ji20) ≤ (((ji20) + 1) % 256)
                      · rw [if_pos c22] at H
                        have c22b0 := eq_true c22
                        have c22b1 : decide ((ji20) ≤ (((ji20) + 1) % 256)) = true := decide_eq_true c22
                        by_cases c23 : (((ji20) + 1) % 256) ≤ 16
                        · rw [if_pos c23] at H
                          have c23b0 := eq_true c23
                          have c23b1 : decide ((((ji20) + 1) % 256) ≤ 16) = true := decide_eq_true c23
                          obtain ⟨y171, hy171⟩ : ∃ y_ : ByteArray, y_ = ((⟨#[48, 49, 50, 51, 52, 53, 54, 55, 56, 57, 65, 66, 67, 68, 69, 70]⟩ : ByteArray).extract ((ji20) : Int).toNat ((((ji20) + 1) % 256) : Int).toNat) := ⟨_, rfl⟩
                          replace H : (if ((⟨#[37]⟩ : ByteArray) ++ y170).size + y171.size ≤ 9223372036854775807 then (if x3_1.size + (((⟨#[37]⟩ : ByteArray) ++ y170) ++ y171).size ≤ 9223372036854775807 then (calepinref06_Segment.l0 k1 a0 (x3_1 ++ (((⟨#[37]⟩ : ByteArray) ++ y170) ++ y171)) (wrap64 (x4_1 + 1))) else (none)) else (none)) = some r := by first | (rw [hy171]; with_reducible exact H) | (have H2_ := (Option.bind_some _ _).symm.trans H; rw [hy171]; with_reducible exact H2_) | (have H2_ := (Option.bind_some _ _).symm.trans H; with_reducible exact H2_) | with_reducible exact H | (rw [hy171]; exact H) | exact H
                          have Ny171 := Aside0.mk hy171
                          clear hy171
                          have sy171 := Ny171.out.symm
                          by_cases c24 : ((⟨#[37]⟩ : ByteArray) ++ y170).size + y171.size ≤ 9223372036854775807
                          · rw [if_pos c24] at H
                            have c24b0 := eq_true c24
                            have c24b1 : decide (((⟨#[37]⟩ : ByteArray) ++ y170).size + y171.size ≤ 9223372036854775807) = true := decide_eq_true c24
                            try have c24b2 : (9223372036854775807 < ((⟨#[37]⟩ : ByteArray) ++ y170).size + y171.size) = False := eq_false (Nat.not_lt.2 c24)
                            have c24b3 := c24b2
                            (try simp only [ByteArray.size_extract, ByteArray.size_append, Nat.min_self, size_lit1] at c24b3)
                            by_cases c25 : x3_1.size + (((⟨#[37]⟩ : ByteArray) ++ y170) ++ y171).size ≤ 9223372036854775807
                            · rw [if_pos c25] at H
                              have c25b0 := eq_true c25
                              have c25b1 : decide (x3_1.size + (((⟨#[37]⟩ : ByteArray) ++ y170) ++ y171).size ≤ 9223372036854775807) = true := decide_eq_true c25
                              try have c25b2 : (9223372036854775807 < x3_1.size + (((⟨#[37]⟩ : ByteArray) ++ y170) ++ y171).size) = False := eq_false (Nat.not_lt.2 c25)
                              have c25b3 := c25b2
                              (try simp only [ByteArray.size_extract, ByteArray.size_append, Nat.min_self, size_lit1] at c25b3)
                              have H' := Aside0.mk H
                              clear H
                              have p4 : 0 ≤ (x4_1 : Int) := of_decide_eq_true (by first | (with_reducible assumption) | assumption)
                              have q4 : x4_1 < (a0.size : Int) := of_decide_eq_true (by first | (with_reducible assumption) | assumption)
                              have hx4 := bt_at a0 x4_1
                              replace p4 := eq_true p4
                              replace q4 := eq_true q4
                              have hk1 : IntKind.u8.wrap ((bt a0 x4_1).tdiv 16) = ji13 := by rw [IntKind.wrap_u8]; exact hji13
                              have hk2 : IntKind.u8.wrap (ji13 + 1) = (ji13 + 1) % 256 := IntKind.wrap_u8 _
                              have hk3 : IntKind.u8.wrap (ji20 + 1) = (ji20 + 1) % 256 := IntKind.wrap_u8 _
                              go_wp2_with (first | (go_at_call 21; (with_reducible refine (calepinref06_bare.calls (bt a0 x4_1) false _ A5.out).mono ?_); rintro e w' ⟨rfl, ⟨nd, rfl⟩⟩; (try first | exact ⟨rfl, _, World.drewN_drewN _ _ _⟩ | exact ⟨rfl, _, Eq.trans (World.drewN_drewN _ _ _) (congrArg (World.drewN _) (Nat.add_assoc _ _ _))⟩); have p11 : 0 ≤ (x4_1 : Int) := of_decide_eq_true (by first | (with_reducible assumption) | assumption); have q11 : x4_1 < (a0.size : Int) := of_decide_eq_true (by first | (with_reducible assumption) | assumption); have hx11 := bt_at a0 x4_1; replace p11 := eq_true p11; replace q11 := eq_true q11; have p12 : 0 ≤ (x4_1 : Int) := of_decide_eq_true (by first | (with_reducible assumption) | assumption); have q12 : x4_1 < (a0.size : Int) := of_decide_eq_true (by first | (with_reducible assumption) | assumption); have hx12 := bt_at a0 x4_1; replace p12 := eq_true p12; replace q12 := eq_true q12; have p18 : 0 ≤ (x4_1 : Int) := of_decide_eq_true (by first | (with_reducible assumption) | assumption); have q18 : x4_1 < (a0.size : Int) := of_decide_eq_true (by first | (with_reducible assumption) | assumption); have hx18 := bt_at a0 x4_1; replace p18 := eq_true p18; replace q18 := eq_true q18; have p19 : 0 ≤ (x4_1 : Int) := of_decide_eq_true (by first | (with_reducible assumption) | assumption); have q19 : x4_1 < (a0.size : Int) := of_decide_eq_true (by first | (with_reducible assumption) | assumption); have hx19 := bt_at a0 x4_1; replace p19 := eq_true p19; replace q19 := eq_true q19))
                              repeat (go_quiet (first | (go_at_call 21; (with_reducible refine (calepinref06_bare.calls (bt a0 x4_1) false _ A5.out).mono ?_); rintro e w' ⟨rfl, ⟨nd, rfl⟩⟩; (try first | exact ⟨rfl, _, World.drewN_drewN _ _ _⟩ | exact ⟨rfl, _, Eq.trans (World.drewN_drewN _ _ _) (congrArg (World.drewN _) (Nat.add_assoc _ _ _))⟩); have p11 : 0 ≤ (x4_1 : Int) := of_decide_eq_true (by first | (with_reducible assumption) | assumption); have q11 : x4_1 < (a0.size : Int) := of_decide_eq_true (by first | (with_reducible assumption) | assumption); have hx11 := bt_at a0 x4_1; replace p11 := eq_true p11; replace q11 := eq_true q11; have p12 : 0 ≤ (x4_1 : Int) := of_decide_eq_true (by first | (with_reducible assumption) | assumption); have q12 : x4_1 < (a0.size : Int) := of_decide_eq_true (by first | (with_reducible assumption) | assumption); have hx12 := bt_at a0 x4_1; replace p12 := eq_true p12; replace q12 := eq_true q12; have p18 : 0 ≤ (x4_1 : Int) := of_decide_eq_true (by first | (with_reducible assumption) | assumption); have q18 : x4_1 < (a0.size : Int) := of_decide_eq_true (by first | (with_reducible assumption) | assumption); have hx18 := bt_at a0 x4_1; replace p18 := eq_true p18; replace q18 := eq_true q18; have p19 : 0 ≤ (x4_1 : Int) := of_decide_eq_true (by first | (with_reducible assumption) | assumption); have q19 : x4_1 < (a0.size : Int) := of_decide_eq_true (by first | (with_reducible assumption) | assumption); have hx19 := bt_at a0 x4_1; replace p19 := eq_true p19; replace q19 := eq_true q19)); try go_wp2_with (first | (go_at_call 21; (with_reducible refine (calepinref06_bare.calls (bt a0 x4_1) false _ A5.out).mono ?_); rintro e w' ⟨rfl, ⟨nd, rfl⟩⟩; (try first | exact ⟨rfl, _, World.drewN_drewN _ _ _⟩ | exact ⟨rfl, _, Eq.trans (World.drewN_drewN _ _ _) (congrArg (World.drewN _) (Nat.add_assoc _ _ _))⟩); have p11 : 0 ≤ (x4_1 : Int) := of_decide_eq_true (by first | (with_reducible assumption) | assumption); have q11 : x4_1 < (a0.size : Int) := of_decide_eq_true (by first | (with_reducible assumption) | assumption); have hx11 := bt_at a0 x4_1; replace p11 := eq_true p11; replace q11 := eq_true q11; have p12 : 0 ≤ (x4_1 : Int) := of_decide_eq_true (by first | (with_reducible assumption) | assumption); have q12 : x4_1 < (a0.size : Int) := of_decide_eq_true (by first | (with_reducible assumption) | assumption); have hx12 := bt_at a0 x4_1; replace p12 := eq_true p12; replace q12 := eq_true q12; have p18 : 0 ≤ (x4_1 : Int) := of_decide_eq_true (by first | (with_reducible assumption) | assumption); have q18 : x4_1 < (a0.size : Int) := of_decide_eq_true (by first | (with_reducible assumption) | assumption); have hx18 := bt_at a0 x4_1; replace p18 := eq_true p18; replace q18 := eq_true q18; have p19 : 0 ≤ (x4_1 : Int) := of_decide_eq_true (by first | (with_reducible assumption) | assumption); have q19 : x4_1 < (a0.size : Int) := of_decide_eq_true (by first | (with_reducible assumption) | assumption); have hx19 := bt_at a0 x4_1; replace p19 := eq_true p19; replace q19 := eq_true q19)))
                              go_roundg k1
                              case measure => have := HK1.out; omega
                              case rel => exact ⟨(x3_1 ++ (((⟨#[37]⟩ : ByteArray) ++ y170) ++ y171)), (wrap64 (x4_1 + 1)), (by first | rfl | (simp; done) | (simp [*]; done) | (simp; exact isEmpty_ne)), (by first | rfl | (simp; done) | (simp [*]; done) | (simp; exact isEmpty_ne)), H', ⟨by have := HK1.out; omega⟩, by repeat (first | exact Drawn0.refl _ | apply Drawn0.step)⟩
                            · rw [if_neg c25] at H
                              exact absurd H (by simp)
                          · rw [if_neg c24] at H
                            exact absurd H (by simp)
                        · rw [if_neg c23] at H
                          exact absurd H (by simp)
                      · rw [if_neg c22] at H
                        exact absurd H (by simp)
                    · rw [if_neg c21] at H
                      exact absurd H (by simp)
                  · rw [if_neg c17] at H
                    exact absurd H (by simp)
                · rw [if_neg c16] at H
                  exact absurd H (by simp)
              · rw [if_neg c15] at H
                exact absurd H (by simp)
            · rw [if_neg c14] at H
              exact absurd H (by simp)
        · rw [if_neg c3] at H
          exact absurd H (by simp)
      · rw [if_neg c2] at H
        have c2b0 : decide (x4_1 < (a0.size : Int)) = false := decide_eq_false c2
        clear c2
        obtain rfl := Option.some.inj H
        go_wp2
        repeat (go_quiet (fail); try go_wp2)
        go_ret
        exact ⟨by first | rfl | (simp; done) | (simp [*]; done) | (simp; exact isEmpty_ne), by repeat (first | exact Drawn0.refl _ | apply Drawn0.step)⟩

/-! ### calepinref06_Of: function 12 -/
mutual
def calepinref06_Of.j0 : Nat → ByteArray → ByteArray → Bool → Option (ByteArray × Bool)
  | 0, _, _, _ => none
  | k + 1, x0, x1, x13 => if x13 = true then (some ((⟨#[47]⟩ : ByteArray), true)) else ((calepinref06_Fits.f k x0).bind fun t172 => (if t172 = true then (if (x1.size : Int) > 0 then ((calepinref06_Fits.f k x1).bind fun t173 => (calepinref06_Of.j1 k x0 x1 (!t173))) else (calepinref06_Of.j1 k x0 x1 false)) else (calepinref06_Of.j1 k x0 x1 true)))
def calepinref06_Of.j1 : Nat → ByteArray → ByteArray → Bool → Option (ByteArray × Bool)
  | 0, _, _, _ => none
  | k + 1, x0, x1, x26 => if x26 = true then (some ((⟨#[]⟩ : ByteArray), false)) else ((calepinref06_Segment.f k x0).bind fun t174 => (if 1 + t174.size ≤ 9223372036854775807 then (if ((⟨#[47]⟩ : ByteArray) ++ t174).size + 1 ≤ 9223372036854775807 then ((calepinref06_Segment.f k x1).bind fun t175 => (if (((⟨#[47]⟩ : ByteArray) ++ t174) ++ (⟨#[47]⟩ : ByteArray)).size + t175.size ≤ 9223372036854775807 then (some ((((⟨#[47]⟩ : ByteArray) ++ t174) ++ (⟨#[47]⟩ : ByteArray)) ++ t175, true)) else (none))) else (none)) else (none)))
end
def calepinref06_Of.f (k : Nat) (a0 : ByteArray) (a1 : ByteArray) : Option (ByteArray × Bool) := if (a0.size : Int) = 0 then (calepinref06_Of.j0 k a0 a1 ((a1.size : Int) == 0)) else (calepinref06_Of.j0 k a0 a1 false)
theorem calepinref06_Of.mono_l : ∀ k, (∀ y0 y1 y2, LeO (calepinref06_Of.j0 k y0 y1 y2) (calepinref06_Of.j0 (k + 1) y0 y1 y2)) ∧ (∀ y0 y1 y2, LeO (calepinref06_Of.j1 k y0 y1 y2) (calepinref06_Of.j1 (k + 1) y0 y1 y2))
  | 0 => ⟨fun _ _ _ r h => by simp [calepinref06_Of.j0] at h, fun _ _ _ r h => by simp [calepinref06_Of.j1] at h⟩
  | k + 1 => by
    obtain ⟨ih0, ih1⟩ := calepinref06_Of.mono_l k
    refine ⟨?_, ?_⟩
    · intro y0 y1 y2
      unfold calepinref06_Of.j0
      repeat' first
      | (with_reducible exact ih0 _ _ _)
      | (with_reducible exact ih1 _ _ _)
      | (with_reducible exact calepinref06_Fits.mono _ _)
      | (with_reducible exact calepinref06_Segment.mono _ _)
      | (with_reducible exact LeO.refl _)
      | (with_reducible exact LeO.none _)
      | (with_reducible refine LeO.ite ?_ ?_)
      | (with_reducible refine LeO.bind ?_ (fun _ => ?_))
      | exact ih0 _ _ _
      | exact ih1 _ _ _
      | exact calepinref06_Fits.mono _ _
      | exact calepinref06_Segment.mono _ _
      | exact LeO.none _
      | refine LeO.ite ?_ ?_
      | refine LeO.bind ?_ (fun _ => ?_)
    · intro y0 y1 y2
      unfold calepinref06_Of.j1
      repeat' first
      | (with_reducible exact ih0 _ _ _)
      | (with_reducible exact ih1 _ _ _)
      | (with_reducible exact calepinref06_Fits.mono _ _)
      | (with_reducible exact calepinref06_Segment.mono _ _)
      | (with_reducible exact LeO.refl _)
      | (with_reducible exact LeO.none _)
      | (with_reducible refine LeO.ite ?_ ?_)
      | (with_reducible refine LeO.bind ?_ (fun _ => ?_))
      | exact ih0 _ _ _
      | exact ih1 _ _ _
      | exact calepinref06_Fits.mono _ _
      | exact calepinref06_Segment.mono _ _
      | exact LeO.none _
      | refine LeO.ite ?_ ?_
      | refine LeO.bind ?_ (fun _ => ?_)
theorem calepinref06_Of.mono : ∀ a0 a1 k, LeO (calepinref06_Of.f k a0 a1) (calepinref06_Of.f (k + 1) a0 a1) := by
  intro a0 a1 k
  obtain ⟨ih0, ih1⟩ := calepinref06_Of.mono_l k
  unfold calepinref06_Of.f
  repeat' first
      | (with_reducible exact ih0 _ _ _)
      | (with_reducible exact ih1 _ _ _)
      | (with_reducible exact calepinref06_Fits.mono _ _)
      | (with_reducible exact calepinref06_Segment.mono _ _)
      | (with_reducible exact LeO.refl _)
      | (with_reducible exact LeO.none _)
      | (with_reducible refine LeO.ite ?_ ?_)
      | (with_reducible refine LeO.bind ?_ (fun _ => ?_))
      | exact ih0 _ _ _
      | exact ih1 _ _ _
      | exact calepinref06_Fits.mono _ _
      | exact calepinref06_Segment.mono _ _
      | exact LeO.none _
      | refine LeO.ite ?_ ?_
      | refine LeO.bind ?_ (fun _ => ?_)
set_option maxHeartbeats 8000000 in
set_option maxRecDepth 100000 in
theorem calepinref06_Of.calls (k : Nat) (a0 : ByteArray) (a1 : ByteArray) (r1 : ByteArray) (r2 : Bool) (w : World) (h : calepinref06_Of.f k a0 a1 = some (r1, r2)) :
    Calls Tryd.prog 12 #[.string a0, .string a1] w fun e w' => e = .returned (.tuple #[.string r1, .bool r2]) ∧ Drawn0 w w' := by
  have H : (if (a0.size : Int) = 0 then (calepinref06_Of.j0 k a0 a1 ((a1.size : Int) == 0)) else (calepinref06_Of.j0 k a0 a1 false)) = some (r1, r2) := h
  clear h
  have HC3 := Aside0.mk H
  clear H
  go_enter Tryd.func12, Tryd.ntmps12
  go_upto_region 1 with (fail)
  go_cut [13] (fun v13 wc => ∃ (kq : Nat) (x13_2 : Bool), v13 = .bool x13_2 ∧ Aside0 (calepinref06_Of.j0 kq a0 a1 x13_2 = some (r1, r2)) ∧ Aside0 (kq ≤ k) ∧ Drawn0 w wc)
  case first =>
    have H := HC3.out
    clear HC3
    by_cases c4 : (a0.size : Int) = 0
    · rw [if_pos c4] at H
      have c4b0 : ((a0.size : Int) == 0) = true := beq_iff_eq.mpr c4
      have c4b1 : ((a0.size : Int) != 0) = false := bne_eq_false_iff_eq.mpr c4
      clear c4
      (first | rw [c4b0] | (simp only [i64_w, i32_w]; rw [c4b0]) | skip)
      have H' := Aside0.mk H
      clear H
      go_wp2
      go_meet
      case rel => exact ⟨_, (((a1.size : Int) == 0)), (by first | rfl | (simp; done) | (simp [*]; done) | (simp; exact isEmpty_ne)), H', ⟨by first | omega | exact Nat.le_refl _⟩, by repeat (first | exact Drawn0.refl _ | apply Drawn0.step)⟩
    · rw [if_neg c4] at H
      have c4b0 : ((a0.size : Int) == 0) = false := beq_eq_false_iff_ne.mpr c4
      have c4b1 : ((a0.size : Int) != 0) = true := bne_iff_ne.mpr c4
      (first | rw [c4b0] | (simp only [i64_w, i32_w]; rw [c4b0]) | skip)
      have H' := Aside0.mk H
      clear H
      go_wp2
      go_meet
      case rel => exact ⟨_, (false), (by first | rfl | (simp; done) | (simp [*]; done) | (simp; exact isEmpty_ne)), H', ⟨by first | omega | exact Nat.le_refl _⟩, by repeat (first | exact Drawn0.refl _ | apply Drawn0.step)⟩
  case rest =>
    clear HC3
    try clear c1
    try clear p2
    try clear c4
    try clear c4b0
    try clear c4b1
    obtain ⟨kq, x13_2, rfl, HA, HJ2, ⟨mc2, rfl⟩⟩ := hcut
    cases kq with
    | zero => exact absurd HA.out (by simp [calepinref06_Of.j0])
    | succ kj2 =>
      have H := HA.out
      clear HA
      simp only [calepinref06_Of.j0] at H
      by_cases c5 : x13_2 = true
      · subst c5
        have H1 : (some ((⟨#[47]⟩ : ByteArray), true)) = some (r1, r2) := by rw [if_pos rfl] at H; exact H
        clear H
        have H := H1
        clear H1
        simp only [Option.some.injEq, Prod.mk.injEq] at H
        obtain ⟨rfl, rfl⟩ := H
        go_wp2
        go_ret2
        exact ⟨by first | rfl | (simp; done) | (simp [*]; done) | (simp; exact isEmpty_ne), by repeat (first | exact Drawn0.refl _ | apply Drawn0.step)⟩
      · replace c5 := Bool.eq_false_iff.mpr c5
        subst c5
        have H1 : ((calepinref06_Fits.f kj2 a0).bind fun t172 => (if t172 = true then (if (a1.size : Int) > 0 then ((calepinref06_Fits.f kj2 a1).bind fun t173 => (calepinref06_Of.j1 kj2 a0 a1 (!t173))) else (calepinref06_Of.j1 kj2 a0 a1 false)) else (calepinref06_Of.j1 kj2 a0 a1 true))) = some (r1, r2) := by rw [if_neg (show ¬ (false = true) by decide)] at H; exact H
        clear H
        have H := H1
        clear H1
        have HC6 := Aside0.mk H
        clear H
        go_upto_region 3 with (fail)
        go_cut [26] (fun v26 wc => ∃ (kq : Nat) (x26_5 : Bool), v26 = .bool x26_5 ∧ Aside0 (calepinref06_Of.j1 kq a0 a1 x26_5 = some (r1, r2)) ∧ Aside0 (kq ≤ kj2) ∧ Drawn0 w wc)
        case first =>
          have H := HC6.out
          clear HC6
          replace H := Option.bind_eq_some_iff.mp H
          obtain ⟨t172, A70, H⟩ := H
          replace H : (if t172 = true then (if (a1.size : Int) > 0 then ((calepinref06_Fits.f kj2 a1).bind fun t173 => (calepinref06_Of.j1 kj2 a0 a1 (!t173))) else (calepinref06_Of.j1 kj2 a0 a1 false)) else (calepinref06_Of.j1 kj2 a0 a1 true)) = some (r1, r2) := H
          have A7 := Aside0.mk A70
          clear A70
          by_cases c8 : t172 = true
          · subst c8
            have H1 : (if (a1.size : Int) > 0 then ((calepinref06_Fits.f kj2 a1).bind fun t173 => (calepinref06_Of.j1 kj2 a0 a1 (!t173))) else (calepinref06_Of.j1 kj2 a0 a1 false)) = some (r1, r2) := by rw [if_pos rfl] at H; exact H
            clear H
            have H := H1
            clear H1
            by_cases c9 : (a1.size : Int) > 0
            · rw [if_pos c9] at H
              have c9b0 : decide (0 < (a1.size : Int)) = true := decide_eq_true c9
              have c9b1 : decide (0 < a1.size) = true := decide_eq_true (by omega)
              clear c9
              (first | rw [c9b0] | (simp only [i64_w, i32_w]; rw [c9b0]) | skip)
              replace H := Option.bind_eq_some_iff.mp H
              obtain ⟨t173, A100, H⟩ := H
              replace H : (calepinref06_Of.j1 kj2 a0 a1 (!t173)) = some (r1, r2) := H
              have A10 := Aside0.mk A100
              clear A100
              have H' := Aside0.mk H
              clear H
              go_wp2_with (first | ((with_reducible refine gate_callee (f := 9) rfl ?_); refine goesL_ (some 15) rfl rfl Tryd.func9 (by kernel_rfl) rfl #[.string a0] rfl (by (try simp only [List.map_toArray, List.map_cons, List.map_nil]); first | done | rfl | (simp only [List.length_drop, List.length_take]; rfl)) ?_; (with_reducible refine (calepinref06_Fits.calls kj2 a0 true _ A7.out).mono ?_); rintro e w' ⟨rfl, ⟨nd, rfl⟩⟩; refine ⟨_, rfl, ?_⟩) | (go_at_call 9; (with_reducible refine (calepinref06_Fits.calls kj2 a1 t173 _ A10.out).mono ?_); rintro e w' ⟨rfl, ⟨nd, rfl⟩⟩))
              go_meet
              case rel => exact ⟨_, (!t173), (by first | rfl | (simp; done) | (simp [*]; done) | (simp; exact isEmpty_ne)), H', ⟨by have := HJ2.out; first | omega | exact Nat.le_refl _⟩, by repeat (first | exact Drawn0.refl _ | apply Drawn0.step)⟩
            · rw [if_neg c9] at H
              have c9b0 : decide (0 < (a1.size : Int)) = false := decide_eq_false c9
              have c9b1 : decide (0 < a1.size) = false := decide_eq_false (by omega)
              clear c9
              (first | rw [c9b0] | (simp only [i64_w, i32_w]; rw [c9b0]) | skip)
              have H' := Aside0.mk H
              clear H
              go_wp2_with (first | ((with_reducible refine gate_callee (f := 9) rfl ?_); refine goesL_ (some 15) rfl rfl Tryd.func9 (by kernel_rfl) rfl #[.string a0] rfl (by (try simp only [List.map_toArray, List.map_cons, List.map_nil]); first | done | rfl | (simp only [List.length_drop, List.length_take]; rfl)) ?_; (with_reducible refine (calepinref06_Fits.calls kj2 a0 true _ A7.out).mono ?_); rintro e w' ⟨rfl, ⟨nd, rfl⟩⟩; refine ⟨_, rfl, ?_⟩))
              go_meet
              case rel => exact ⟨_, (false), (by first | rfl | (simp; done) | (simp [*]; done) | (simp; exact isEmpty_ne)), H', ⟨by have := HJ2.out; first | omega | exact Nat.le_refl _⟩, by repeat (first | exact Drawn0.refl _ | apply Drawn0.step)⟩
          · replace c8 := Bool.eq_false_iff.mpr c8
            subst c8
            have H1 : (calepinref06_Of.j1 kj2 a0 a1 true) = some (r1, r2) := by rw [if_neg (show ¬ (false = true) by decide)] at H; exact H
            clear H
            have H := H1
            clear H1
            have H' := Aside0.mk H
            clear H
            go_wp2_with (first | ((with_reducible refine gate_callee (f := 9) rfl ?_); refine goesL_ (some 15) rfl rfl Tryd.func9 (by kernel_rfl) rfl #[.string a0] rfl (by (try simp only [List.map_toArray, List.map_cons, List.map_nil]); first | done | rfl | (simp only [List.length_drop, List.length_take]; rfl)) ?_; (with_reducible refine (calepinref06_Fits.calls kj2 a0 false _ A7.out).mono ?_); rintro e w' ⟨rfl, ⟨nd, rfl⟩⟩; refine ⟨_, rfl, ?_⟩))
            go_meet
            case rel => exact ⟨_, (true), (by first | rfl | (simp; done) | (simp [*]; done) | (simp; exact isEmpty_ne)), H', ⟨by have := HJ2.out; first | omega | exact Nat.le_refl _⟩, by repeat (first | exact Drawn0.refl _ | apply Drawn0.step)⟩
        case rest =>
          clear HC6
          try clear c1
          try clear c2
          try clear p2
          try clear c4
          try clear c4b0
          try clear c4b1
          try clear c5
          try clear c8
          try clear c9
          try clear c9b0
          try clear c9b1
          try clear p2
          obtain ⟨kq, x26_5, rfl, HA, HJ5, ⟨mc5, rfl⟩⟩ := hcut
          cases kq with
          | zero => exact absurd HA.out (by simp [calepinref06_Of.j1])
          | succ kj5 =>
            have H := HA.out
            clear HA
            simp only [calepinref06_Of.j1] at H
            by_cases c11 : x26_5 = true
            · subst c11
              have H1 : (some ((⟨#[]⟩ : ByteArray), false)) = some (r1, r2) := by rw [if_pos rfl] at H; exact H
              clear H
              have H := H1
              clear H1
              simp only [Option.some.injEq, Prod.mk.injEq] at H
              obtain ⟨rfl, rfl⟩ := H
              go_wp2
              go_ret2
              exact ⟨by first | rfl | (simp; done) | (simp [*]; done) | (simp; exact isEmpty_ne), by repeat (first | exact Drawn0.refl _ | apply Drawn0.step)⟩
            · replace c11 := Bool.eq_false_iff.mpr c11
              subst c11
              have H1 : ((calepinref06_Segment.f kj5 a0).bind fun t174 => (if 1 + t174.size ≤ 9223372036854775807 then (if ((⟨#[47]⟩ : ByteArray) ++ t174).size + 1 ≤ 9223372036854775807 then ((calepinref06_Segment.f kj5 a1).bind fun t175 => (if (((⟨#[47]⟩ : ByteArray) ++ t174) ++ (⟨#[47]⟩ : ByteArray)).size + t175.size ≤ 9223372036854775807 then (some ((((⟨#[47]⟩ : ByteArray) ++ t174) ++ (⟨#[47]⟩ : ByteArray)) ++ t175, true)) else (none))) else (none)) else (none))) = some (r1, r2) := by rw [if_neg (show ¬ (false = true) by decide)] at H; exact H
              clear H
              have H := H1
              clear H1
              replace H := Option.bind_eq_some_iff.mp H
              obtain ⟨t174, A120, H⟩ := H
              replace H : (if 1 + t174.size ≤ 9223372036854775807 then (if ((⟨#[47]⟩ : ByteArray) ++ t174).size + 1 ≤ 9223372036854775807 then ((calepinref06_Segment.f kj5 a1).bind fun t175 => (if (((⟨#[47]⟩ : ByteArray) ++ t174) ++ (⟨#[47]⟩ : ByteArray)).size + t175.size ≤ 9223372036854775807 then (some ((((⟨#[47]⟩ : ByteArray) ++ t174) ++ (⟨#[47]⟩ : ByteArray)) ++ t175, true)) else (none))) else (none)) else (none)) = some (r1, r2) := H
              have A12 := Aside0.mk A120
              clear A120
              by_cases c13 : 1 + t174.size ≤ 9223372036854775807
              · rw [if_pos c13] at H
                have c13b0 := eq_true c13
                have c13b1 : decide (1 + t174.size ≤ 9223372036854775807) = true := decide_eq_true c13
                try have c13b2 : (9223372036854775807 < 1 + t174.size) = False := eq_false (Nat.not_lt.2 c13)
                by_cases c14 : ((⟨#[47]⟩ : ByteArray) ++ t174).size + 1 ≤ 9223372036854775807
                · rw [if_pos c14] at H
                  have c14b0 := eq_true c14
                  have c14b1 : decide (((⟨#[47]⟩ : ByteArray) ++ t174).size + 1 ≤ 9223372036854775807) = true := decide_eq_true c14
                  try have c14b2 : (9223372036854775807 < ((⟨#[47]⟩ : ByteArray) ++ t174).size + 1) = False := eq_false (Nat.not_lt.2 c14)
                  have c14b3 := c14b2
                  (try simp only [ByteArray.size_extract, ByteArray.size_append, Nat.min_self, size_lit1] at c14b3)
                  replace H := Option.bind_eq_some_iff.mp H
                  obtain ⟨t175, A150, H⟩ := H
                  replace H : (if (((⟨#[47]⟩ : ByteArray) ++ t174) ++ (⟨#[47]⟩ : ByteArray)).size + t175.size ≤ 9223372036854775807 then (some ((((⟨#[47]⟩ : ByteArray) ++ t174) ++ (⟨#[47]⟩ : ByteArray)) ++ t175, true)) else (none)) = some (r1, r2) := H
                  have A15 := Aside0.mk A150
                  clear A150
                  by_cases c16 : (((⟨#[47]⟩ : ByteArray) ++ t174) ++ (⟨#[47]⟩ : ByteArray)).size + t175.size ≤ 9223372036854775807
                  · rw [if_pos c16] at H
                    have c16b0 := eq_true c16
                    have c16b1 : decide ((((⟨#[47]⟩ : ByteArray) ++ t174) ++ (⟨#[47]⟩ : ByteArray)).size + t175.size ≤ 9223372036854775807) = true := decide_eq_true c16
                    try have c16b2 : (9223372036854775807 < (((⟨#[47]⟩ : ByteArray) ++ t174) ++ (⟨#[47]⟩ : ByteArray)).size + t175.size) = False := eq_false (Nat.not_lt.2 c16)
                    have c16b3 := c16b2
                    (try simp only [ByteArray.size_extract, ByteArray.size_append, Nat.min_self, size_lit1] at c16b3)
                    simp only [Option.some.injEq, Prod.mk.injEq] at H
                    obtain ⟨rfl, rfl⟩ := H
                    go_wp2_with (first | ((with_reducible refine gate_callee (f := 10) rfl ?_); refine goesL_ (some 28) rfl rfl Tryd.func10 (by kernel_rfl) rfl #[.string a0] rfl (by (try simp only [List.map_toArray, List.map_cons, List.map_nil]); first | done | rfl | (simp only [List.length_drop, List.length_take]; rfl)) ?_; (with_reducible refine (calepinref06_Segment.calls kj5 a0 t174 _ A12.out).mono ?_); rintro e w' ⟨rfl, ⟨nd, rfl⟩⟩; refine ⟨_, rfl, ?_⟩) | ((with_reducible refine gate_callee (f := 10) rfl ?_); refine goesL_ (some 32) rfl rfl Tryd.func10 (by kernel_rfl) rfl #[.string a1] rfl (by (try simp only [List.map_toArray, List.map_cons, List.map_nil]); first | done | rfl | (simp only [List.length_drop, List.length_take]; rfl)) ?_; (with_reducible refine (calepinref06_Segment.calls kj5 a1 t175 _ A15.out).mono ?_); rintro e w' ⟨rfl, ⟨nd, rfl⟩⟩; refine ⟨_, rfl, ?_⟩))
                    go_ret2
                    exact ⟨by first | rfl | (simp; done) | (simp [*]; done) | (simp; exact isEmpty_ne), by repeat (first | exact Drawn0.refl _ | apply Drawn0.step)⟩
                  · rw [if_neg c16] at H
                    exact absurd H (by simp)
                · rw [if_neg c14] at H
                  exact absurd H (by simp)
              · rw [if_neg c13] at H
                exact absurd H (by simp)

end Go.Proofs.YtpifopiopgbbaaaDoor.Pf
