-- Written by a program of this session (wip/extprint.py) over the kit's print. Not trusted: Lean checks it.
import Derived.Test.YtpjidedgifjgeaaDoorPfx0
namespace Go.Proofs.YtpjidedgifjgeaaDoor.Pf
open Go.RowKit Go.Proofs.YtpjidedgifjgeaaDoorW.PrintWords Go.Proofs.YtpjidedgifjgeaaDoorW.PrintLast Go.Proofs.YtpjidedgifjgeaaDoorW.PrintMore
attribute [local go_sem] max2_int min2_int max_two min_two max_three min_three max_four min_four   -- for this text's walks alone
set_option linter.unusedVariables false
set_option linter.unusedSimpArgs false

-- function 16 (strings_Cut): its contract is proved in YtpjidedgifjgeaaDoorExtFold

/-! ### stringslite_HasSuffix: function 31 -/
def stringslite_HasSuffix.f (a0 : ByteArray) (a1 : ByteArray) : Option (Bool) := if (a0.size : Int) ≥ (a1.size : Int) then (if 0 ≤ (wrap64 ((a0.size : Int) - (a1.size : Int))) then (if (wrap64 ((a0.size : Int) - (a1.size : Int))) ≤ (a0.size : Int) then (some ((a0.extract ((wrap64 ((a0.size : Int) - (a1.size : Int))) : Int).toNat a0.size).toList == a1.toList)) else (none)) else (none)) else (some false)
set_option maxHeartbeats 8000000 in
set_option maxRecDepth 100000 in
theorem stringslite_HasSuffix.calls (a0 : ByteArray) (a1 : ByteArray) (r : Bool) (w : World) (h : stringslite_HasSuffix.f a0 a1 = some r) :
    Calls Tryd.prog 31 #[.string a0, .string a1] w fun e w' => e = .returned (.bool r) ∧ Drawn0 w w' := by
  have H : (if (a0.size : Int) ≥ (a1.size : Int) then (if 0 ≤ (wrap64 ((a0.size : Int) - (a1.size : Int))) then (if (wrap64 ((a0.size : Int) - (a1.size : Int))) ≤ (a0.size : Int) then (some ((a0.extract ((wrap64 ((a0.size : Int) - (a1.size : Int))) : Int).toNat a0.size).toList == a1.toList)) else (none)) else (none)) else (some false)) = some r := h
  clear h
  by_cases c3 : (a0.size : Int) ≥ (a1.size : Int)
  · rw [if_pos c3] at H
    have c3b0 : decide ((a1.size : Int) ≤ (a0.size : Int)) = true := decide_eq_true c3
    have c3b1 : decide (a1.size ≤ a0.size) = true := decide_eq_true (Int.ofNat_le.mp c3)
    clear c3
    obtain ⟨ji4, hji4⟩ : ∃ j_ : Int, (wrap64 ((a0.size : Int) - (a1.size : Int))) = j_ := ⟨_, rfl⟩
    replace H : (if 0 ≤ (ji4) then (if (ji4) ≤ (a0.size : Int) then (some ((a0.extract ((ji4) : Int).toNat a0.size).toList == a1.toList)) else (none)) else (none)) = some r := by first | (rw [hji4] at H; exact H) | (simp only [hji4] at H ⊢; exact H)
    have hji4w : (IntKind.i64.wrap ((a0.size : Int) - (a1.size : Int))) = ji4 := (i64_w _).trans hji4
    by_cases c5 : 0 ≤ (ji4)
    · rw [if_pos c5] at H
      have c5b0 := eq_true c5
      have c5b1 : decide (0 ≤ (ji4)) = true := decide_eq_true c5
      clear c5
      by_cases c6 : (ji4) ≤ (a0.size : Int)
      · rw [if_pos c6] at H
        have c6b0 := eq_true c6
        have c6b1 : decide ((ji4) ≤ (a0.size : Int)) = true := decide_eq_true c6
        clear c6
        obtain ⟨y101, hy101⟩ : ∃ y_ : ByteArray, y_ = (a0.extract ((ji4) : Int).toNat a0.size) := ⟨_, rfl⟩
        replace H : (some (y101.toList == a1.toList)) = some r := by first | (rw [hy101]; with_reducible exact H) | (have H2_ := (Option.bind_some _ _).symm.trans H; rw [hy101]; with_reducible exact H2_) | (have H2_ := (Option.bind_some _ _).symm.trans H; with_reducible exact H2_) | with_reducible exact H | (rw [hy101]; exact H) | exact H
        have Ny101 := Aside0.mk hy101
        clear hy101
        have sy101 := Ny101.out.symm
        obtain rfl := Option.some.inj H
        go_enter Tryd.func31, Tryd.ntmps31
        go_wp2
        go_ret
        exact ⟨by first | rfl | (simp; done) | (simp only [← hji4] <;> (first | rfl | simp)) | (simp [*]; done), by repeat (first | exact Drawn0.refl _ | apply Drawn0.step)⟩
      · rw [if_neg c6] at H
        exact absurd H (by simp)
    · rw [if_neg c5] at H
      exact absurd H (by simp)
  · rw [if_neg c3] at H
    have c3b0 : decide ((a1.size : Int) ≤ (a0.size : Int)) = false := decide_eq_false c3
    have c3b1 : decide (a1.size ≤ a0.size) = false := decide_eq_false (fun h => c3 (Int.ofNat_le.mpr h))
    clear c3
    obtain rfl := Option.some.inj H
    go_enter Tryd.func31, Tryd.ntmps31
    go_wp2
    go_ret
    exact ⟨by first | rfl | (simp; done) | (simp [*]; done), by repeat (first | exact Drawn0.refl _ | apply Drawn0.step)⟩

/-! ### stringslite_TrimSuffix: function 25 -/
def stringslite_TrimSuffix.f (a0 : ByteArray) (a1 : ByteArray) : Option (ByteArray) := (stringslite_HasSuffix.f a0 a1).bind fun t102 => (if t102 = true then (if 0 ≤ (wrap64 ((a0.size : Int) - (a1.size : Int))) then (if (wrap64 ((a0.size : Int) - (a1.size : Int))) ≤ (a0.size : Int) then (some (a0.extract 0 ((wrap64 ((a0.size : Int) - (a1.size : Int))) : Int).toNat)) else (none)) else (none)) else (some a0))
set_option maxHeartbeats 8000000 in
set_option maxRecDepth 100000 in
theorem stringslite_TrimSuffix.calls (a0 : ByteArray) (a1 : ByteArray) (r : ByteArray) (w : World) (h : stringslite_TrimSuffix.f a0 a1 = some r) :
    Calls Tryd.prog 25 #[.string a0, .string a1] w fun e w' => e = .returned (.string r) ∧ Drawn0 w w' := by
  have H : ((stringslite_HasSuffix.f a0 a1).bind fun t102 => (if t102 = true then (if 0 ≤ (wrap64 ((a0.size : Int) - (a1.size : Int))) then (if (wrap64 ((a0.size : Int) - (a1.size : Int))) ≤ (a0.size : Int) then (some (a0.extract 0 ((wrap64 ((a0.size : Int) - (a1.size : Int))) : Int).toNat)) else (none)) else (none)) else (some a0))) = some r := h
  clear h
  replace H := Option.bind_eq_some_iff.mp H
  obtain ⟨t102, A30, H⟩ := H
  replace H : (if t102 = true then (if 0 ≤ (wrap64 ((a0.size : Int) - (a1.size : Int))) then (if (wrap64 ((a0.size : Int) - (a1.size : Int))) ≤ (a0.size : Int) then (some (a0.extract 0 ((wrap64 ((a0.size : Int) - (a1.size : Int))) : Int).toNat)) else (none)) else (none)) else (some a0)) = some r := H
  have A3 := Aside0.mk A30
  clear A30
  by_cases c4 : t102 = true
  · subst c4
    have H1 : (if 0 ≤ (wrap64 ((a0.size : Int) - (a1.size : Int))) then (if (wrap64 ((a0.size : Int) - (a1.size : Int))) ≤ (a0.size : Int) then (some (a0.extract 0 ((wrap64 ((a0.size : Int) - (a1.size : Int))) : Int).toNat)) else (none)) else (none)) = some r := by rw [if_pos rfl] at H; exact H
    clear H
    have H := H1
    clear H1
    obtain ⟨ji5, hji5⟩ : ∃ j_ : Int, (wrap64 ((a0.size : Int) - (a1.size : Int))) = j_ := ⟨_, rfl⟩
    replace H : (if 0 ≤ (ji5) then (if (ji5) ≤ (a0.size : Int) then (some (a0.extract 0 ((ji5) : Int).toNat)) else (none)) else (none)) = some r := by first | (rw [hji5] at H; exact H) | (simp only [hji5] at H ⊢; exact H)
    (try rw [hji5] at A3)
    have hji5w : (IntKind.i64.wrap ((a0.size : Int) - (a1.size : Int))) = ji5 := (i64_w _).trans hji5
    by_cases c6 : 0 ≤ (ji5)
    · rw [if_pos c6] at H
      have c6b0 := eq_true c6
      have c6b1 : decide (0 ≤ (ji5)) = true := decide_eq_true c6
      clear c6
      by_cases c7 : (ji5) ≤ (a0.size : Int)
      · rw [if_pos c7] at H
        have c7b0 := eq_true c7
        have c7b1 : decide ((ji5) ≤ (a0.size : Int)) = true := decide_eq_true c7
        clear c7
        obtain ⟨y103, hy103⟩ : ∃ y_ : ByteArray, y_ = (a0.extract 0 ((ji5) : Int).toNat) := ⟨_, rfl⟩
        replace H : (some y103) = some r := by first | (rw [hy103]; with_reducible exact H) | (have H2_ := (Option.bind_some _ _).symm.trans H; rw [hy103]; with_reducible exact H2_) | (have H2_ := (Option.bind_some _ _).symm.trans H; with_reducible exact H2_) | with_reducible exact H | (rw [hy103]; exact H) | exact H
        have Ny103 := Aside0.mk hy103
        clear hy103
        have sy103 := Ny103.out.symm
        obtain rfl := Option.some.inj H
        go_enter Tryd.func25, Tryd.ntmps25
        go_wp2_with (first | ((with_reducible refine gate_callee (f := 31) rfl ?_); refine goesL_ (some 7) rfl rfl Tryd.func31 (by kernel_rfl) rfl #[.string a0, .string a1] rfl (by (try simp only [List.map_toArray, List.map_cons, List.map_nil]); first | done | rfl | (simp only [List.length_drop, List.length_take]; rfl)) ?_; (with_reducible refine (stringslite_HasSuffix.calls a0 a1 true _ A3.out).mono ?_); rintro e w' ⟨rfl, ⟨nd, rfl⟩⟩; refine ⟨_, rfl, ?_⟩))
        go_ret
        exact ⟨by first | rfl | (simp; done) | (simp only [← hji5] <;> (first | rfl | simp)) | (simp [*]; done), by repeat (first | exact Drawn0.refl _ | apply Drawn0.step)⟩
      · rw [if_neg c7] at H
        exact absurd H (by simp)
    · rw [if_neg c6] at H
      exact absurd H (by simp)
  · replace c4 := Bool.eq_false_iff.mpr c4
    subst c4
    have H1 : (some a0) = some r := by rw [if_neg (show ¬ (false = true) by decide)] at H; exact H
    clear H
    have H := H1
    clear H1
    obtain rfl := Option.some.inj H
    go_enter Tryd.func25, Tryd.ntmps25
    go_wp2_with (first | ((with_reducible refine gate_callee (f := 31) rfl ?_); refine goesL_ (some 7) rfl rfl Tryd.func31 (by kernel_rfl) rfl #[.string a0, .string a1] rfl (by (try simp only [List.map_toArray, List.map_cons, List.map_nil]); first | done | rfl | (simp only [List.length_drop, List.length_take]; rfl)) ?_; (with_reducible refine (stringslite_HasSuffix.calls a0 a1 false _ A3.out).mono ?_); rintro e w' ⟨rfl, ⟨nd, rfl⟩⟩; refine ⟨_, rfl, ?_⟩))
    go_ret
    exact ⟨by first | rfl | (simp; done) | (simp [*]; done), by repeat (first | exact Drawn0.refl _ | apply Drawn0.step)⟩

/-! ### strings_TrimSuffix: function 17 -/
def strings_TrimSuffix.f (a0 : ByteArray) (a1 : ByteArray) : Option (ByteArray) := (stringslite_TrimSuffix.f a0 a1).bind fun t104 => (some t104)
set_option maxHeartbeats 8000000 in
set_option maxRecDepth 100000 in
theorem strings_TrimSuffix.calls (a0 : ByteArray) (a1 : ByteArray) (r : ByteArray) (w : World) (h : strings_TrimSuffix.f a0 a1 = some r) :
    Calls Tryd.prog 17 #[.string a0, .string a1] w fun e w' => e = .returned (.string r) ∧ Drawn0 w w' := by
  have H : ((stringslite_TrimSuffix.f a0 a1).bind fun t104 => (some t104)) = some r := h
  clear h
  replace H := Option.bind_eq_some_iff.mp H
  obtain ⟨t104, A30, H⟩ := H
  replace H : (some t104) = some r := H
  have A3 := Aside0.mk A30
  clear A30
  obtain rfl := Option.some.inj H
  go_enter Tryd.func17, Tryd.ntmps17
  go_wp2_with (first | ((with_reducible refine gate_callee (f := 25) rfl ?_); refine goesL_ (some 7) rfl rfl Tryd.func25 (by kernel_rfl) rfl #[.string a0, .string a1] rfl (by (try simp only [List.map_toArray, List.map_cons, List.map_nil]); first | done | rfl | (simp only [List.length_drop, List.length_take]; rfl)) ?_; (with_reducible refine (stringslite_TrimSuffix.calls a0 a1 t104 _ A3.out).mono ?_); rintro e w' ⟨rfl, ⟨nd, rfl⟩⟩; refine ⟨_, rfl, ?_⟩))
  go_ret
  exact ⟨by first | rfl | (simp; done) | (simp [*]; done), by repeat (first | exact Drawn0.refl _ | apply Drawn0.step)⟩

-- function 18 (strings_Contains): its contract is proved in YtpjidedgifjgeaaDoorExtFold

/-! ### fold_Unfold: function 9 -/
mutual
def fold_Unfold.l0 : Nat → ByteArray → List ByteArray → Option (List ByteArray × Int)
  | 0, _, _ => none
  | k + 1, x0, x4 => if x0.toList = ([] : List UInt8) then (some (x4, 0)) else ((strings_Cut.f x0 (⟨#[10]⟩ : ByteArray)).bind fun bt105 => ((strings_TrimSuffix.f bt105.1 (⟨#[13]⟩ : ByteArray)).bind fun t108 => (if bt105.2.2 = true then (if t108.toList = ([] : List UInt8) then (fold_Unfold.j1 k x4 t108 bt105.2.1 true) else ((strings_Contains.f t108 (⟨#[13]⟩ : ByteArray)).bind fun t109 => (fold_Unfold.j1 k x4 t108 bt105.2.1 t109))) else (fold_Unfold.j1 k x4 t108 bt105.2.1 true))))
def fold_Unfold.j1 : Nat → List ByteArray → ByteArray → ByteArray → Bool → Option (List ByteArray × Int)
  | 0, _, _, _, _ => none
  | k + 1, x4, x5, x6, x27 => if x27 = true then (some (([] : List ByteArray), 20)) else (if 0 < (x5.size : Int) then (if (bt x5 0) = 32 then (fold_Unfold.j2 k x6 x4 x5 false) else (fold_Unfold.j2 k x6 x4 x5 ((bt x5 0) != 9))) else (none))
def fold_Unfold.j2 : Nat → ByteArray → List ByteArray → ByteArray → Bool → Option (List ByteArray × Int)
  | 0, _, _, _, _ => none
  | k + 1, x0, x4, x5, x39 => if x39 = true then (if x4.length < 8796093022208 then (fold_Unfold.l0 k x0 (x4 ++ [x5])) else (none)) else (if (x4.length : Int) = 0 then (some (([] : List ByteArray), 20)) else (if 0 ≤ (wrap64 ((x4.length : Int) - 1)) then (if (wrap64 ((x4.length : Int) - 1)) < (x4.length : Int) then (if 1 ≤ (x5.size : Int) then ((some (x5.extract 1 x5.size : ByteArray)).bind fun y114 => (if (rdOf ByteArray.empty x4 (wrap64 ((x4.length : Int) - 1))).size + y114.size ≤ 9223372036854775807 then (fold_Unfold.l0 k x0 (x4.set ((wrap64 ((x4.length : Int) - 1)) : Int).toNat ((rdOf ByteArray.empty x4 (wrap64 ((x4.length : Int) - 1))) ++ y114))) else (none))) else (none)) else (none)) else (none)))
end
def fold_Unfold.f (k : Nat) (a0 : ByteArray) : Option (List ByteArray × Int) := fold_Unfold.l0 k a0 ([] : List ByteArray)
theorem fold_Unfold.mono_l : ∀ k, (∀ y0 y1, LeO (fold_Unfold.l0 k y0 y1) (fold_Unfold.l0 (k + 1) y0 y1)) ∧ (∀ y0 y1 y2 y3, LeO (fold_Unfold.j1 k y0 y1 y2 y3) (fold_Unfold.j1 (k + 1) y0 y1 y2 y3)) ∧ (∀ y0 y1 y2 y3, LeO (fold_Unfold.j2 k y0 y1 y2 y3) (fold_Unfold.j2 (k + 1) y0 y1 y2 y3))
  | 0 => ⟨fun _ _ r h => by simp [fold_Unfold.l0] at h, fun _ _ _ _ r h => by simp [fold_Unfold.j1] at h, fun _ _ _ _ r h => by simp [fold_Unfold.j2] at h⟩
  | k + 1 => by
    obtain ⟨ih0, ih1, ih2⟩ := fold_Unfold.mono_l k
    refine ⟨?_, ?_, ?_⟩
    · intro y0 y1
      unfold fold_Unfold.l0
      repeat' first
      | (with_reducible exact ih0 _ _)
      | (with_reducible exact ih1 _ _ _ _)
      | (with_reducible exact ih2 _ _ _ _)
      | (with_reducible exact LeO.refl _)
      | (with_reducible exact LeO.none _)
      | (with_reducible refine LeO.ite ?_ ?_)
      | (with_reducible refine LeO.bind ?_ (fun _ => ?_))
      | exact ih0 _ _
      | exact ih1 _ _ _ _
      | exact ih2 _ _ _ _
      | exact LeO.none _
      | refine LeO.ite ?_ ?_
      | refine LeO.bind ?_ (fun _ => ?_)
    · intro y0 y1 y2 y3
      unfold fold_Unfold.j1
      repeat' first
      | (with_reducible exact ih0 _ _)
      | (with_reducible exact ih1 _ _ _ _)
      | (with_reducible exact ih2 _ _ _ _)
      | (with_reducible exact LeO.refl _)
      | (with_reducible exact LeO.none _)
      | (with_reducible refine LeO.ite ?_ ?_)
      | (with_reducible refine LeO.bind ?_ (fun _ => ?_))
      | exact ih0 _ _
      | exact ih1 _ _ _ _
      | exact ih2 _ _ _ _
      | exact LeO.none _
      | refine LeO.ite ?_ ?_
      | refine LeO.bind ?_ (fun _ => ?_)
    · intro y0 y1 y2 y3
      unfold fold_Unfold.j2
      repeat' first
      | (with_reducible exact ih0 _ _)
      | (with_reducible exact ih1 _ _ _ _)
      | (with_reducible exact ih2 _ _ _ _)
      | (with_reducible exact LeO.refl _)
      | (with_reducible exact LeO.none _)
      | (with_reducible refine LeO.ite ?_ ?_)
      | (with_reducible refine LeO.bind ?_ (fun _ => ?_))
      | exact ih0 _ _
      | exact ih1 _ _ _ _
      | exact ih2 _ _ _ _
      | exact LeO.none _
      | refine LeO.ite ?_ ?_
      | refine LeO.bind ?_ (fun _ => ?_)
theorem fold_Unfold.mono : ∀ a0 k, LeO (fold_Unfold.f k a0) (fold_Unfold.f (k + 1) a0) := by
  intro a0 k
  obtain ⟨ih0, ih1, ih2⟩ := fold_Unfold.mono_l k
  unfold fold_Unfold.f
  repeat' first
      | (with_reducible exact ih0 _ _)
      | (with_reducible exact ih1 _ _ _ _)
      | (with_reducible exact ih2 _ _ _ _)
      | (with_reducible exact LeO.refl _)
      | (with_reducible exact LeO.none _)
      | (with_reducible refine LeO.ite ?_ ?_)
      | (with_reducible refine LeO.bind ?_ (fun _ => ?_))
      | exact ih0 _ _
      | exact ih1 _ _ _ _
      | exact ih2 _ _ _ _
      | exact LeO.none _
      | refine LeO.ite ?_ ?_
      | refine LeO.bind ?_ (fun _ => ?_)
def fold_Unfold.T8 : Bool × List (List Nat × List Nat) := (true, [([], []), ([], []), ([1], [1]), ([2], [2]), ([0, 3], [0, 3]), ([4], [4]), ([], []), ([6], [6]), ([5, 7], [5, 7]), ([0, 3, 0, 1, 2, 3, 4, 5, 6, 7, 8], [0, 3]), ([9, 8, 0, 1, 2, 3, 4, 5, 6, 7, 8], [8, 9])])
def fold_Unfold.B8 : List Nat := [0, 0, 2, 6, 15, 31, 0, 64, 255, 511, 1023]
theorem fold_Unfold.tab8 : rtab .any (opsOf Tryd.f9 8) = fold_Unfold.T8 := by kernel_rfl
theorem fold_Unfold.bits8 : waitsOk fold_Unfold.T8.2 fold_Unfold.B8 = true := by kernel_rfl
set_option maxHeartbeats 8000000 in
set_option maxRecDepth 100000 in
theorem fold_Unfold.calls (k : Nat) (a0 : ByteArray) (r1 : List ByteArray) (r2 : Int) (w : World) (hE : Env w) (h : fold_Unfold.f k a0 = some (r1, r2)) :
    Calls Tryd.prog 9 #[.string a0] w fun e w' => ∃ v0_ : Value, e = .returned (.tuple #[v0_, .int .i64 r2]) ∧ Kd.R Kd.string 9 w' w.heap.size (fun _ => True) v0_ r1 ∧ Below w.heap.size w w' := by
  have HE := Aside0.mk hE
  clear hE
  have HB := Aside0.mk (Below.refl w.heap.size w)
  have H : (fold_Unfold.l0 k a0 ([] : List ByteArray)) = some (r1, r2) := h
  clear h
  have H' := Aside0.mk H
  clear H
  go_enter Tryd.func9, Tryd.ntmps9
  go_wp2
  go_loopg [0, 4] k (fun kq v0 v4 w' => ∃ (x0_1 : ByteArray) (x4_1 : List ByteArray), v0 = .string x0_1 ∧ Aside0 (fold_Unfold.l0 kq x0_1 x4_1 = some (r1, r2)) ∧ Aside0 (kq ≤ k) ∧ Aside0 (Kd.R Kd.string 9 w' w.heap.size (fun _ => True) v4 x4_1) ∧ Aside0 (Below w.heap.size w w'))
  case atStart => exact ⟨(a0), (([] : List ByteArray)), (by first | rfl | (simp; done) | (simp [*]; done)), H', ⟨Nat.le_refl _⟩, ⟨by first | exact Kd.R_nil _ _ _ _ _ | exact Kd.N_nil _ _ _ _ _ | exact Kd.V_nil _ _ _ _ _ | exact Kd.Q_nil _ _ _ _ _ | exact Kd.S_nil _ _ _ _ _⟩, ⟨by repeat (first | (with_reducible first | exact HB.out | apply below_alloc | apply pw_below_drewN | apply below_drew1) | exact HB.out)⟩⟩
  case round =>
    clear H'
    obtain ⟨x0_1, x4_1, rfl, HA, HK1, HO_4, HB⟩ := hrel
    cases gk with
    | zero => exact absurd HA.out (by simp [fold_Unfold.l0])
    | succ k1 =>
      have H := HA.out
      clear HA
      simp only [fold_Unfold.l0] at H
      by_cases c2 : x0_1.toList = ([] : List UInt8)
      · rw [if_pos c2] at H
        have c2b0 : (x0_1.toList == ([] : List UInt8)) = true := beq_iff_eq.mpr c2
        have c2b1 : (x0_1.toList != ([] : List UInt8)) = false := bne_eq_false_iff_eq.mpr c2
        clear c2
        simp only [Option.some.injEq, Prod.mk.injEq] at H
        obtain ⟨rfl, rfl⟩ := H
        go_wp2
        go_ret2
        exact ⟨_, by first | rfl | (simp [errW_none, errW_some] <;> rfl) | (simp [*, errW_none, errW_some] <;> rfl), by (with_reducible repeat (first | apply Kd.R_alloc | apply Kd.R_drewN | apply Kd.R_drew)); exact HO_4.out, by repeat (first | (with_reducible first | exact HB.out | apply below_alloc | apply pw_below_drewN | apply below_drew1) | exact HB.out)⟩
      · rw [if_neg c2] at H
        have c2b0 : (x0_1.toList == ([] : List UInt8)) = false := beq_eq_false_iff_ne.mpr c2
        have c2b1 : (x0_1.toList != ([] : List UInt8)) = true := bne_iff_ne.mpr c2
        replace H := Option.bind_eq_some_iff.mp H
        obtain ⟨⟨t105, t106, t107⟩, A30, H⟩ := H
        replace H : ((strings_TrimSuffix.f t105 (⟨#[13]⟩ : ByteArray)).bind fun t108 => (if t107 = true then (if t108.toList = ([] : List UInt8) then (fold_Unfold.j1 k1 x4_1 t108 t106 true) else ((strings_Contains.f t108 (⟨#[13]⟩ : ByteArray)).bind fun t109 => (fold_Unfold.j1 k1 x4_1 t108 t106 t109))) else (fold_Unfold.j1 k1 x4_1 t108 t106 true))) = some (r1, r2) := H
        have A3 := Aside0.mk A30
        clear A30
        replace H := Option.bind_eq_some_iff.mp H
        obtain ⟨t108, A40, H⟩ := H
        replace H : (if t107 = true then (if t108.toList = ([] : List UInt8) then (fold_Unfold.j1 k1 x4_1 t108 t106 true) else ((strings_Contains.f t108 (⟨#[13]⟩ : ByteArray)).bind fun t109 => (fold_Unfold.j1 k1 x4_1 t108 t106 t109))) else (fold_Unfold.j1 k1 x4_1 t108 t106 true)) = some (r1, r2) := H
        have A4 := Aside0.mk A40
        clear A40
        have HC5 := Aside0.mk H
        clear H
        go_upto_region 5 with (first | ((with_reducible refine gate_callee (f := 16) rfl ?_); refine goesL_ (some 12) rfl rfl Tryd.func16 (by kernel_rfl) rfl #[.string x0_1, .string (⟨#[10]⟩ : ByteArray)] rfl (by (try simp only [List.map_toArray, List.map_cons, List.map_nil]); first | done | rfl | (simp only [List.length_drop, List.length_take]; rfl)) ?_; (with_reducible refine (strings_Cut.calls x0_1 (⟨#[10]⟩ : ByteArray) t105 t106 t107 _ (env_at HE.out (by repeat (first | (with_reducible first | exact HB.out | apply below_alloc | apply pw_below_drewN | apply below_drew1) | exact HB.out))) A3.out).mono ?_); rintro e w6 ⟨rfl, hb⟩; refine ⟨_, rfl, ?_⟩; have n0_ := Aside0.mk (Kd.R_below (by (with_reducible repeat (first | apply Kd.R_alloc | apply Kd.R_drewN | apply Kd.R_drew)); exact HO_4.out) hb); have n1_ := Aside0.mk (below_step (by repeat (first | (with_reducible first | exact HB.out | apply below_alloc | apply pw_below_drewN | apply below_drew1) | exact HB.out)) hb); clear HO_4; clear HB; have HO_4 := n0_; have HB := n1_; clear n0_ n1_; (try clear hb); (try clear hb2); (try clear hk); (try clear hi)) | ((with_reducible refine gate_callee (f := 17) rfl ?_); refine goesL_ (some 17) rfl rfl Tryd.func17 (by kernel_rfl) rfl #[.string t105, .string (⟨#[13]⟩ : ByteArray)] rfl (by (try simp only [List.map_toArray, List.map_cons, List.map_nil]); first | done | rfl | (simp only [List.length_drop, List.length_take]; rfl)) ?_; (with_reducible refine (strings_TrimSuffix.calls t105 (⟨#[13]⟩ : ByteArray) t108 _ A4.out).mono ?_); rintro e w' ⟨rfl, ⟨nd, rfl⟩⟩; refine ⟨_, rfl, ?_⟩))
        (try simp only [Act.put, List.setIfInBounds_toArray, List.set_cons_zero, List.set_cons_succ])
        go_cut [27] (fun v27 wc => ∃ (kq : Nat) (x27_4 : Bool), v27 = .bool x27_4 ∧ Aside0 (fold_Unfold.j1 kq x4_1 t108 t106 x27_4 = some (r1, r2)) ∧ Aside0 (kq ≤ k1) ∧ Aside0 (Kd.R Kd.string 9 wc w.heap.size (fun _ => True) u4 x4_1) ∧ Aside0 (Below w.heap.size w wc))
        case first =>
          have H := HC5.out
          clear HC5
          by_cases c7 : t107 = true
          · subst c7
            have H1 : (if t108.toList = ([] : List UInt8) then (fold_Unfold.j1 k1 x4_1 t108 t106 true) else ((strings_Contains.f t108 (⟨#[13]⟩ : ByteArray)).bind fun t109 => (fold_Unfold.j1 k1 x4_1 t108 t106 t109))) = some (r1, r2) := by rw [if_pos rfl] at H; exact H
            clear H
            have H := H1
            clear H1
            by_cases c8 : t108.toList = ([] : List UInt8)
            · rw [if_pos c8] at H
              have c8b0 : (t108.toList == ([] : List UInt8)) = true := beq_iff_eq.mpr c8
              have c8b1 : (t108.toList != ([] : List UInt8)) = false := bne_eq_false_iff_eq.mpr c8
              clear c8
              (first | rw [c8b0] | (simp only [i64_w, i32_w]; rw [c8b0]) | skip)
              have H' := Aside0.mk H
              clear H
              go_wp2
              go_meet
              case rel => exact ⟨_, (true), (by first | rfl | (simp; done) | (simp [*]; done)), H', ⟨by have := HK1.out; first | omega | exact Nat.le_refl _⟩, ⟨by (with_reducible repeat (first | apply Kd.R_alloc | apply Kd.R_drewN | apply Kd.R_drew)); exact HO_4.out⟩, ⟨by repeat (first | (with_reducible first | exact HB.out | apply below_alloc | apply pw_below_drewN | apply below_drew1) | exact HB.out)⟩⟩
            · rw [if_neg c8] at H
              have c8b0 : (t108.toList == ([] : List UInt8)) = false := beq_eq_false_iff_ne.mpr c8
              have c8b1 : (t108.toList != ([] : List UInt8)) = true := bne_iff_ne.mpr c8
              (first | rw [c8b0] | (simp only [i64_w, i32_w]; rw [c8b0]) | skip)
              replace H := Option.bind_eq_some_iff.mp H
              obtain ⟨t109, A90, H⟩ := H
              replace H : (fold_Unfold.j1 k1 x4_1 t108 t106 t109) = some (r1, r2) := H
              have A9 := Aside0.mk A90
              clear A90
              have H' := Aside0.mk H
              clear H
              go_wp2_with (first | (go_at_call 18; (with_reducible refine (strings_Contains.calls t108 (⟨#[13]⟩ : ByteArray) t109 _ (env_at HE.out (by repeat (first | (with_reducible first | exact HB.out | apply below_alloc | apply pw_below_drewN | apply below_drew1) | exact HB.out))) A9.out).mono ?_); rintro e w10 ⟨rfl, hb⟩; have n0_ := Aside0.mk (Kd.R_below (by (with_reducible repeat (first | apply Kd.R_alloc | apply Kd.R_drewN | apply Kd.R_drew)); exact HO_4.out) hb); have n1_ := Aside0.mk (below_step (by repeat (first | (with_reducible first | exact HB.out | apply below_alloc | apply pw_below_drewN | apply below_drew1) | exact HB.out)) hb); clear HO_4; clear HB; have HO_4 := n0_; have HB := n1_; clear n0_ n1_; (try clear hb); (try clear hb2); (try clear hk); (try clear hi)))
              go_meet
              case rel => exact ⟨_, (t109), (by first | rfl | (simp; done) | (simp [*]; done)), H', ⟨by have := HK1.out; first | omega | exact Nat.le_refl _⟩, ⟨by (with_reducible repeat (first | apply Kd.R_alloc | apply Kd.R_drewN | apply Kd.R_drew)); exact HO_4.out⟩, ⟨by repeat (first | (with_reducible first | exact HB.out | apply below_alloc | apply pw_below_drewN | apply below_drew1) | exact HB.out)⟩⟩
          · replace c7 := Bool.eq_false_iff.mpr c7
            subst c7
            have H1 : (fold_Unfold.j1 k1 x4_1 t108 t106 true) = some (r1, r2) := by rw [if_neg (show ¬ (false = true) by decide)] at H; exact H
            clear H
            have H := H1
            clear H1
            have H' := Aside0.mk H
            clear H
            go_wp2
            go_meet
            case rel => exact ⟨_, (true), (by first | rfl | (simp; done) | (simp [*]; done)), H', ⟨by have := HK1.out; first | omega | exact Nat.le_refl _⟩, ⟨by (with_reducible repeat (first | apply Kd.R_alloc | apply Kd.R_drewN | apply Kd.R_drew)); exact HO_4.out⟩, ⟨by repeat (first | (with_reducible first | exact HB.out | apply below_alloc | apply pw_below_drewN | apply below_drew1) | exact HB.out)⟩⟩
        case rest =>
          clear HC5
          try clear c1
          try clear c2
          try clear c2b0
          try clear c2b1
          try clear p2
          try clear c7
          try clear c8
          try clear c8b0
          try clear c8b1
          try clear c9
          obtain ⟨kq, x27_4, rfl, HA, HJ4, HO_4, HB⟩ := hcut
          cases kq with
          | zero => exact absurd HA.out (by simp [fold_Unfold.j1])
          | succ kj4 =>
            have H := HA.out
            clear HA
            simp only [fold_Unfold.j1] at H
            by_cases c11 : x27_4 = true
            · subst c11
              have H1 : (some (([] : List ByteArray), 20)) = some (r1, r2) := by rw [if_pos rfl] at H; exact H
              clear H
              have H := H1
              clear H1
              simp only [Option.some.injEq, Prod.mk.injEq] at H
              obtain ⟨rfl, rfl⟩ := H
              go_wp2
              go_ret2
              exact ⟨_, by first | rfl | (simp [errW_none, errW_some] <;> rfl) | (simp [*, errW_none, errW_some] <;> rfl), by first | exact Kd.R_nil _ _ _ _ _ | exact Kd.N_nil _ _ _ _ _ | exact Kd.V_nil _ _ _ _ _ | exact Kd.Q_nil _ _ _ _ _ | exact Kd.S_nil _ _ _ _ _, by repeat (first | (with_reducible first | exact HB.out | apply below_alloc | apply pw_below_drewN | apply below_drew1) | exact HB.out)⟩
            · replace c11 := Bool.eq_false_iff.mpr c11
              subst c11
              have H1 : (if 0 < (t108.size : Int) then (if (bt t108 0) = 32 then (fold_Unfold.j2 kj4 t106 x4_1 t108 false) else (fold_Unfold.j2 kj4 t106 x4_1 t108 ((bt t108 0) != 9))) else (none)) = some (r1, r2) := by rw [if_neg (show ¬ (false = true) by decide)] at H; exact H
              clear H
              have H := H1
              clear H1
              have HC12 := Aside0.mk H
              clear H
              go_upto_region 9 with (fail)
              go_cut [39] (fun v39 wc => ∃ (kq : Nat) (x39_11 : Bool), v39 = .bool x39_11 ∧ Aside0 (fold_Unfold.j2 kq t106 x4_1 t108 x39_11 = some (r1, r2)) ∧ Aside0 (kq ≤ kj4) ∧ Aside0 (Kd.R Kd.string 9 wc w.heap.size (fun _ => True) u4 x4_1) ∧ Aside0 (Below w.heap.size w wc))
              case first =>
                have H := HC12.out
                clear HC12
                by_cases c13 : 0 < (t108.size : Int)
                · rw [if_pos c13] at H
                  have c13b0 : decide (0 < (t108.size : Int)) = true := decide_eq_true c13
                  have c13b1 : decide (0 < t108.size) = true := decide_eq_true (by omega)
                  clear c13
                  (first | rw [c13b0] | (simp only [i64_w, i32_w]; rw [c13b0]) | skip)
                  by_cases c15 : (bt t108 0) = 32
                  · rw [if_pos c15] at H
                    have c15b0 : ((bt t108 0) == 32) = true := beq_iff_eq.mpr c15
                    have c15b1 : ((bt t108 0) != 32) = false := bne_eq_false_iff_eq.mpr c15
                    clear c15
                    have H' := Aside0.mk H
                    clear H
                    have p14 : 0 ≤ (0 : Int) := (by omega)
                    have q14 : 0 < t108.size := (by have : (0 : Int) < (t108.size : Int) := of_decide_eq_true (by first | (with_reducible assumption) | assumption); omega)
                    have hx14 : ∀ h : 0 < t108.size, ((t108[0]'h).toNat : Int) = bt t108 0 := bt_at t108 0
                    clear p14
                    have qi14 : (0 < (t108.size : Int)) = True := eq_true (of_decide_eq_true (by first | (with_reducible assumption) | assumption))
                    replace q14 := eq_true q14
                    go_wp2
                    go_meet
                    case rel => exact ⟨_, (false), (by first | rfl | (simp; done) | (simp [*]; done)), H', ⟨by have := HK1.out; have := HJ4.out; first | omega | exact Nat.le_refl _⟩, ⟨by (with_reducible repeat (first | apply Kd.R_alloc | apply Kd.R_drewN | apply Kd.R_drew)); exact HO_4.out⟩, ⟨by repeat (first | (with_reducible first | exact HB.out | apply below_alloc | apply pw_below_drewN | apply below_drew1) | exact HB.out)⟩⟩
                  · rw [if_neg c15] at H
                    have c15b0 : ((bt t108 0) == 32) = false := beq_eq_false_iff_ne.mpr c15
                    have c15b1 : ((bt t108 0) != 32) = true := bne_iff_ne.mpr c15
                    have H' := Aside0.mk H
                    clear H
                    have p14 : 0 ≤ (0 : Int) := (by omega)
                    have q14 : 0 < t108.size := (by have : (0 : Int) < (t108.size : Int) := of_decide_eq_true (by first | (with_reducible assumption) | assumption); omega)
                    have hx14 : ∀ h : 0 < t108.size, ((t108[0]'h).toNat : Int) = bt t108 0 := bt_at t108 0
                    clear p14
                    have qi14 : (0 < (t108.size : Int)) = True := eq_true (of_decide_eq_true (by first | (with_reducible assumption) | assumption))
                    replace q14 := eq_true q14
                    have p16 : 0 ≤ (0 : Int) := (by omega)
                    have q16 : 0 < t108.size := (by have : (0 : Int) < (t108.size : Int) := of_decide_eq_true (by first | (with_reducible assumption) | assumption); omega)
                    have hx16 : ∀ h : 0 < t108.size, ((t108[0]'h).toNat : Int) = bt t108 0 := bt_at t108 0
                    clear p16
                    have qi16 : (0 < (t108.size : Int)) = True := eq_true (of_decide_eq_true (by first | (with_reducible assumption) | assumption))
                    replace q16 := eq_true q16
                    go_wp2
                    go_meet
                    case rel => exact ⟨_, (((bt t108 0) != 9)), (by first | rfl | (simp; done) | (simp [*]; done)), H', ⟨by have := HK1.out; have := HJ4.out; first | omega | exact Nat.le_refl _⟩, ⟨by (with_reducible repeat (first | apply Kd.R_alloc | apply Kd.R_drewN | apply Kd.R_drew)); exact HO_4.out⟩, ⟨by repeat (first | (with_reducible first | exact HB.out | apply below_alloc | apply pw_below_drewN | apply below_drew1) | exact HB.out)⟩⟩
                · rw [if_neg c13] at H
                  exact absurd H (by simp)
              case rest =>
                clear HC12
                try clear c1
                try clear p1
                try clear q1
                try clear hx1
                try clear qi1
                try clear c2
                try clear c2b0
                try clear c2b1
                try clear p2
                try clear c7
                try clear c8
                try clear c8b0
                try clear c8b1
                try clear c9
                try clear c11
                try clear c13
                try clear c13b0
                try clear c13b1
                try clear p14
                try clear q14
                try clear hx14
                try clear qi14
                try clear c15
                try clear c15b0
                try clear c15b1
                try clear c16
                try clear p16
                try clear q16
                try clear hx16
                try clear qi16
                try clear p14
                try clear p16
                try clear p2
                try clear q14
                try clear q16
                obtain ⟨kq, x39_11, rfl, HA, HJ11, HO_4, HB⟩ := hcut
                cases kq with
                | zero => exact absurd HA.out (by simp [fold_Unfold.j2])
                | succ kj11 =>
                  have H := HA.out
                  clear HA
                  simp only [fold_Unfold.j2] at H
                  by_cases c17 : x39_11 = true
                  · subst c17
                    have H1 : (if x4_1.length < 8796093022208 then (fold_Unfold.l0 kj11 t106 (x4_1 ++ [t108])) else (none)) = some (r1, r2) := by rw [if_pos rfl] at H; exact H
                    clear H
                    have H := H1
                    clear H1
                    by_cases c18 : x4_1.length < 8796093022208
                    · rw [if_pos c18] at H
                      have LMc18 := Aside0.mk c18
                      clear c18
                      obtain ⟨y110, hy110⟩ : ∃ y_ : List ByteArray, y_ = (x4_1 ++ [t108]) := ⟨_, rfl⟩
                      replace H : (fold_Unfold.l0 kj11 t106 y110) = some (r1, r2) := by first | (rw [hy110]; with_reducible exact H) | (have H2_ := (Option.bind_some _ _).symm.trans H; rw [hy110]; with_reducible exact H2_) | (have H2_ := (Option.bind_some _ _).symm.trans H; with_reducible exact H2_) | with_reducible exact H | (rw [hy110]; exact H) | exact H
                      have Ny110 := Aside0.mk hy110
                      clear hy110
                      have H' := Aside0.mk H
                      clear H
                      go_wp2_with (first | ((with_reducible refine gate_builtin (b := .append) (xs := #[.tmp 48, .tmp 50]) rfl ?_); at_builtin; refine Kd.R_append Kd.string (w0 := w) w.heap.size rfl (.tmp 48) (.tmp 50) 23 9 (.string ⟨#[]⟩) 16 rfl Tryd.underlying23 info9 rfl (by decide) (by omega) u4 x4_1 t108 [.string t108] (fun _ => True) (fun _ => False) rfl rfl ?aP (fun _ hk => hk.elim) ?aF ?aO ?aB ?aS ?aL ?_; (case aP => exact rfl); (case aB => exact (by repeat (first | (with_reducible first | exact HB.out | apply below_alloc | apply pw_below_drewN | apply below_drew1) | exact HB.out))); (case aF => exact (fun _ _ => trivial)); (case aO => exact (by (with_reducible repeat (first | apply Kd.R_alloc | apply Kd.R_drewN | apply Kd.R_drew)); exact HO_4.out)); (case aS => exact (below_size (by repeat (first | (with_reducible first | exact HB.out | apply below_alloc | apply pw_below_drewN | apply below_drew1) | exact HB.out)))); (case aL => have := LMc18.out; omega); intro v111 w19 ho hb hg hat; rw [← Ny110.out] at ho; have n0_ := Aside0.mk (hb); have n1_ := Aside0.mk (ho); clear HB; clear HO_4; have HB := n0_; have HO112 := n1_; clear n0_ n1_; clear ho hb hg hat))
                      go_roundg kj11
                      case measure => have := HK1.out; have := HJ4.out; have := HJ11.out; omega
                      case rel => exact ⟨(t106), (y110), (by first | rfl | (simp; done) | (simp [*]; done)), H', ⟨by have := HK1.out; have := HJ4.out; have := HJ11.out; omega⟩, ⟨by (with_reducible repeat (first | apply Kd.R_alloc | apply Kd.R_drewN | apply Kd.R_drew)); exact HO112.out⟩, ⟨by repeat (first | (with_reducible first | exact HB.out | apply below_alloc | apply pw_below_drewN | apply below_drew1) | exact HB.out)⟩⟩
                    · rw [if_neg c18] at H
                      exact absurd H (by simp)
                  · replace c17 := Bool.eq_false_iff.mpr c17
                    subst c17
                    have H1 : (if (x4_1.length : Int) = 0 then (some (([] : List ByteArray), 20)) else (if 0 ≤ (wrap64 ((x4_1.length : Int) - 1)) then (if (wrap64 ((x4_1.length : Int) - 1)) < (x4_1.length : Int) then (if 1 ≤ (t108.size : Int) then ((some (t108.extract 1 t108.size : ByteArray)).bind fun y114 => (if (rdOf ByteArray.empty x4_1 (wrap64 ((x4_1.length : Int) - 1))).size + y114.size ≤ 9223372036854775807 then (fold_Unfold.l0 kj11 t106 (x4_1.set ((wrap64 ((x4_1.length : Int) - 1)) : Int).toNat ((rdOf ByteArray.empty x4_1 (wrap64 ((x4_1.length : Int) - 1))) ++ y114))) else (none))) else (none)) else (none)) else (none))) = some (r1, r2) := by rw [if_neg (show ¬ (false = true) by decide)] at H; exact H
                    clear H
                    have H := H1
                    clear H1
                    by_cases c20 : (x4_1.length : Int) = 0
                    · rw [if_pos c20] at H
                      have c20b0 : ((x4_1.length : Int) == 0) = true := beq_iff_eq.mpr c20
                      have c20b1 : ((x4_1.length : Int) != 0) = false := bne_eq_false_iff_eq.mpr c20
                      clear c20
                      simp only [Option.some.injEq, Prod.mk.injEq] at H
                      obtain ⟨rfl, rfl⟩ := H
                      obtain ⟨Ao21, co21, eo21⟩ := Kd.R_slice HO_4.out
                      subst eo21
                      go_wp2
                      go_ret2
                      exact ⟨_, by first | rfl | (simp [errW_none, errW_some] <;> rfl) | (simp [*, errW_none, errW_some] <;> rfl), by first | exact Kd.R_nil _ _ _ _ _ | exact Kd.N_nil _ _ _ _ _ | exact Kd.V_nil _ _ _ _ _ | exact Kd.Q_nil _ _ _ _ _ | exact Kd.S_nil _ _ _ _ _, by repeat (first | (with_reducible first | exact HB.out | apply below_alloc | apply pw_below_drewN | apply below_drew1) | exact HB.out)⟩
                    · rw [if_neg c20] at H
                      have c20b0 : ((x4_1.length : Int) == 0) = false := beq_eq_false_iff_ne.mpr c20
                      have c20b1 : ((x4_1.length : Int) != 0) = true := bne_iff_ne.mpr c20
                      have c20b2 : ¬ (x4_1 = []) := fun h_ => c20 (by rw [h_]; rfl)
                      obtain ⟨ji22, hji22⟩ : ∃ j_ : Int, (wrap64 ((x4_1.length : Int) - 1)) = j_ := ⟨_, rfl⟩
                      replace H : (if 0 ≤ (ji22) then (if (ji22) < (x4_1.length : Int) then (if 1 ≤ (t108.size : Int) then ((some (t108.extract 1 t108.size : ByteArray)).bind fun y114 => (if (rdOf ByteArray.empty x4_1 (ji22)).size + y114.size ≤ 9223372036854775807 then (fold_Unfold.l0 kj11 t106 (x4_1.set ((ji22) : Int).toNat ((rdOf ByteArray.empty x4_1 (ji22)) ++ y114))) else (none))) else (none)) else (none)) else (none)) = some (r1, r2) := by first | (rw [hji22] at H; exact H) | (simp only [hji22] at H ⊢; exact H)
                      have hji22w : (IntKind.i64.wrap ((x4_1.length : Int) - 1)) = ji22 := (i64_w _).trans hji22
                      by_cases c23 : 0 ≤ (ji22)
                      · rw [if_pos c23] at H
                        have c23b0 : decide (0 ≤ (ji22)) = true := decide_eq_true c23
                        clear c23
                        by_cases c24 : (ji22) < (x4_1.length : Int)
                        · rw [if_pos c24] at H
                          have c24b0 : decide ((ji22) < (x4_1.length : Int)) = true := decide_eq_true c24
                          clear c24
                          by_cases c25 : 1 ≤ (t108.size : Int)
                          · rw [if_pos c25] at H
                            have c25b0 := eq_true c25
                            have c25b1 : decide (1 ≤ (t108.size : Int)) = true := decide_eq_true c25
                            clear c25
                            obtain ⟨y114, hy114⟩ : ∃ y_ : ByteArray, y_ = (t108.extract 1 t108.size) := ⟨_, rfl⟩
                            replace H : (if (rdOf ByteArray.empty x4_1 (ji22)).size + y114.size ≤ 9223372036854775807 then (fold_Unfold.l0 kj11 t106 (x4_1.set ((ji22) : Int).toNat ((rdOf ByteArray.empty x4_1 (ji22)) ++ y114))) else (none)) = some (r1, r2) := by first | (rw [hy114]; with_reducible exact H) | (have H2_ := (Option.bind_some _ _).symm.trans H; rw [hy114]; with_reducible exact H2_) | (have H2_ := (Option.bind_some _ _).symm.trans H; with_reducible exact H2_) | with_reducible exact H | (rw [hy114]; exact H) | exact H
                            have Ny114 := Aside0.mk hy114
                            clear hy114
                            have sy114 := Ny114.out.symm
                            by_cases c26 : (rdOf ByteArray.empty x4_1 (ji22)).size + y114.size ≤ 9223372036854775807
                            · rw [if_pos c26] at H
                              have c26b0 := eq_true c26
                              have c26b1 : decide ((rdOf ByteArray.empty x4_1 (ji22)).size + y114.size ≤ 9223372036854775807) = true := decide_eq_true c26
                              try have c26b2 : (9223372036854775807 < (rdOf ByteArray.empty x4_1 (ji22)).size + y114.size) = False := eq_false (Nat.not_lt.2 c26)
                              obtain ⟨y115, hy115⟩ : ∃ y_ : List ByteArray, y_ = (x4_1.set ((ji22) : Int).toNat ((rdOf ByteArray.empty x4_1 (ji22)) ++ y114)) := ⟨_, rfl⟩
                              replace H : (fold_Unfold.l0 kj11 t106 y115) = some (r1, r2) := by first | (rw [hy115]; with_reducible exact H) | (have H2_ := (Option.bind_some _ _).symm.trans H; rw [hy115]; with_reducible exact H2_) | (have H2_ := (Option.bind_some _ _).symm.trans H; with_reducible exact H2_) | with_reducible exact H | (rw [hy115]; exact H) | exact H
                              have Ny115 := Aside0.mk hy115
                              clear hy115
                              have H' := Aside0.mk H
                              clear H
                              obtain ⟨Ao28, co28, eo28⟩ := Kd.R_slice HO_4.out
                              subst eo28
                              try go_wp2
                              have n0_ := Aside0.mk (Kd.R_drew HO_4.out)
                              have n1_ := Aside0.mk (below_drew1 HB.out)
                              clear HO_4
                              clear HB
                              have HO_4 := n0_
                              have HB := n1_
                              clear n0_ n1_
                              have p113 : 0 ≤ ((ji22) : Int) := of_decide_eq_true (by first | (with_reducible assumption) | assumption)
                              have q113 : (ji22) < (x4_1.length : Int) := of_decide_eq_true (by first | (with_reducible assumption) | assumption)
                              obtain ⟨ad113, e113, hx113_0⟩ := Kd.at_string (Kd.R_reads' HO_4.out).2.2 (ji22) p113 q113
                              cases e113
                              replace p113 := eq_true p113
                              replace q113 := eq_true q113
                              have p27 : 0 ≤ ((ji22) : Int) := of_decide_eq_true (by first | (with_reducible assumption) | assumption)
                              have q27 : ((ji22) : Int) < ((x4_1.length : Int) : Int) := of_decide_eq_true (by first | (with_reducible assumption) | assumption)
                              obtain ⟨go27, co27, eo27, gb27, gl27, cl27, HG27⟩ := Kd.R_form HO_4.out (by omega)
                              (first | cases eo27 | (injection eo27 with ea_ en_ ec_; (first | subst ea_ | (injection ea_ with ea_; subst ea_)); subst ec_; clear en_))
                              have GB27 := Aside0.mk gb27
                              have GG27 := Aside0.mk HG27
                              clear gb27 gl27 HG27
                              (first | simp only [add_plain] at hx113_0 | skip)
                              obtain ⟨hx27_0, hf27_0⟩ := Kd.R_celln (⟨#[]⟩ : ByteArray) HO_4.out ((ji22) : Int) p27 q27
                              replace p27 := eq_true p27
                              replace q27 := eq_true q27
                              have HP30 := Kd.R_putn HO_4.out ((ji22) : Int) ((rdOf ByteArray.empty x4_1 (ji22)) ++ y114)
                              rw [← Ny115.out] at HP30
                              have HQ30 := Aside0.mk HP30
                              clear HP30
                              refine start_ (n := 11) (S := fun w' => w'.cell? ⟨go27, ((ji22)).toNat, none⟩ = some (.string (rdOf ByteArray.empty x4_1 (ji22)))) (ds := [10]) #[false, false, false, false, false, false, false, false, false, false, false] (by kernel_rfl) rfl rfl (hx113_0) (fun hHeld => ?_); refine with_tabW fold_Unfold.tab8 fold_Unfold.bits8 (fun HT_ HW_ => ?_)
                              generalize wc.drew = w29 at HO_4 HB GG27 HQ30 hf27_0 hx113_0 hx27_0 hHeld ⊢
                              refine pure_ (i := 0) (N := some 29) (v := ?_) (a' := ?_) #[true, false, false, false, false, false, false, false, false, false, false] rfl rfl (any_of HT_.out (by kernel_rfl)) (fun _ _ _ h => h) (Or.inl ⟨by rfl, ?_⟩) ?_ ?_
                              rotate_left
                              · intro w'
                                go_simp
                                with_reducible rfl
                              rotate_left
                              · simp only [Act.put, List.setIfInBounds_toArray, List.set_cons_zero, List.set_cons_succ, i64_w, i32_w]
                                rfl
                              refine pure_ (i := 1) (N := some 30) (v := ?_) (a' := ?_) #[true, true, false, false, false, false, false, false, false, false, false] rfl rfl (any_of HT_.out (by kernel_rfl)) (fun _ _ _ h => h) (Or.inl ⟨by rfl, ?_⟩) ?_ ?_
                              rotate_left
                              · intro w'
                                go_simp
                                with_reducible rfl
                              rotate_left
                              · simp only [Act.put, List.setIfInBounds_toArray, List.set_cons_zero, List.set_cons_succ, i64_w, i32_w]
                                rfl
                              refine pure_ (i := 2) (N := some 31) (v := ?_) (a' := ?_) #[true, true, true, false, false, false, false, false, false, false, false] rfl rfl (any_of HT_.out (by kernel_rfl)) (fun _ _ _ h => h) (Or.inl ⟨by rfl, ?_⟩) ?_ ?_
                              rotate_left
                              · intro w'
                                go_simp
                                with_reducible rfl
                              rotate_left
                              · simp only [Act.put, List.setIfInBounds_toArray, List.set_cons_zero, List.set_cons_succ, i64_w, i32_w]
                                rfl
                              refine pure_ (i := 3) (N := some 32) (v := ?_) (a' := ?_) #[true, true, true, true, false, false, false, false, false, false, false] rfl rfl (any_of HT_.out (by kernel_rfl)) (fun _ _ _ h => h) (Or.inl ⟨by rfl, ?_⟩) ?_ ?_
                              rotate_left
                              · intro w'
                                go_simp
                                with_reducible rfl
                              rotate_left
                              · simp only [Act.put, List.setIfInBounds_toArray, List.set_cons_zero, List.set_cons_succ, i64_w, i32_w]
                                rfl
                              refine pure_ (i := 4) (N := some 33) (v := ?_) (a' := ?_) #[true, true, true, true, true, false, false, false, false, false, false] rfl rfl (any_of HT_.out (by kernel_rfl)) (fun _ _ _ h => h) (Or.inl ⟨by rfl, ?_⟩) ?_ ?_
                              rotate_left
                              · intro w'
                                go_simp
                                with_reducible rfl
                              rotate_left
                              · simp only [Act.put, List.setIfInBounds_toArray, List.set_cons_zero, List.set_cons_succ, i64_w, i32_w]
                                rfl
                              refine pure_ (i := 6) (N := some 35) (v := ?_) (a' := ?_) #[true, true, true, true, true, false, true, false, false, false, false] rfl rfl (any_of HT_.out (by kernel_rfl)) (fun _ _ _ h => h) (Or.inl ⟨by rfl, ?_⟩) ?_ ?_
                              rotate_left
                              · intro w'
                                go_simp
                                with_reducible rfl
                              rotate_left
                              · simp only [Act.put, List.setIfInBounds_toArray, List.set_cons_zero, List.set_cons_succ, i64_w, i32_w]
                                rfl
                              refine pure_ (i := 7) (N := some 36) (v := ?_) (a' := ?_) #[true, true, true, true, true, false, true, true, false, false, false] rfl rfl (any_of HT_.out (by kernel_rfl)) (fun _ _ _ h => h) (Or.inl ⟨by rfl, ?_⟩) ?_ ?_
                              rotate_left
                              · intro w'
                                go_simp
                                with_reducible rfl
                              rotate_left
                              · simp only [Act.put, List.setIfInBounds_toArray, List.set_cons_zero, List.set_cons_succ, i64_w, i32_w]
                                rfl
                              refine take_ (i := 5) (N := some 34) (v := ?_) (a' := ?_) #[true, true, true, true, true, true, true, true, false, false, false] rfl rfl (take_ofW HT_.out HW_.out (by kernel_rfl)) (fun _ _ _ h => h) (Or.inl ⟨by rfl, ?_⟩) hHeld ?_ ?_
                              rotate_left
                              · intro w' s0
                                go_simp
                                with_reducible rfl
                              rotate_left
                              · simp only [Act.put, List.setIfInBounds_toArray, List.set_cons_zero, List.set_cons_succ, i64_w, i32_w]
                                rfl
                              refine pure_ (i := 8) (N := some 37) (v := ?_) (a' := ?_) #[true, true, true, true, true, true, true, true, true, false, false] rfl rfl (any_of HT_.out (by kernel_rfl)) (fun _ _ _ h => h) (Or.inl ⟨by rfl, ?_⟩) ?_ ?_
                              rotate_left
                              · intro w'
                                go_simp
                                with_reducible rfl
                              rotate_left
                              · simp only [Act.put, List.setIfInBounds_toArray, List.set_cons_zero, List.set_cons_succ, i64_w, i32_w]
                                rfl
                              refine pure_ (i := 9) (N := some 38) (v := ?_) (a' := ?_) #[true, true, true, true, true, true, true, true, true, true, false] rfl rfl (any_of HT_.out (by kernel_rfl)) (fun _ _ _ h => h) (Or.inl ⟨by rfl, ?_⟩) ?_ ?_
                              rotate_left
                              · intro w'
                                go_simp
                                with_reducible rfl
                              rotate_left
                              · simp only [Act.put, List.setIfInBounds_toArray, List.set_cons_zero, List.set_cons_succ, i64_w, i32_w]
                                rfl
                              refine last_ (i := 10) (N := none) #[true, true, true, true, true, true, true, true, true, true, true] rfl rfl (one_of HT_.out (by kernel_rfl)) (by decide) (fun K hK => ?_)
                              refine skip_ (w1 := ?_) (by rfl) rfl ?_ ?_
                              rotate_left
                              · go_simp
                                rfl
                              refine hK.out _ _ ?_
                              clear hK K
                              refine done_ (done_of HT_.out (by kernel_rfl)) ?_
                              try go_wp2
                              go_roundg kj11
                              case measure => have := HK1.out; have := HJ4.out; have := HJ11.out; omega
                              case rel => exact ⟨(t106), (y115), (by first | rfl | (simp; done) | (simp [*]; done)), H', ⟨by have := HK1.out; have := HJ4.out; have := HJ11.out; omega⟩, ⟨by (with_reducible repeat (first | apply Kd.R_alloc | apply Kd.R_drewN | apply Kd.R_drew)); exact HQ30.out⟩, ⟨by repeat (first | (with_reducible first | exact HB.out | apply below_alloc | apply pw_below_drewN | apply below_drew1 | refine below_set ?_ GB27.out) | exact HB.out)⟩⟩
                            · rw [if_neg c26] at H
                              exact absurd H (by simp)
                          · rw [if_neg c25] at H
                            exact absurd H (by simp)
                        · rw [if_neg c24] at H
                          exact absurd H (by simp)
                      · rw [if_neg c23] at H
                        exact absurd H (by simp)

-- function 12 (fold_Fold): its contract is proved in YtpjidedgifjgeaaDoorExtFold

/-! ### calepinlaw02_first: function 8 -/
def calepinlaw02_first.f (k : Nat)  : Option (Bool) := (fold_Unfold.f k (⟨#[65, 58, 49, 13, 10, 32, 50, 10, 66, 58, 10]⟩ : ByteArray)).bind fun bt116 => ((fold_Unfold.f k (⟨#[32, 65, 10]⟩ : ByteArray)).bind fun bt120 => (if bt116.2 = 0 then (if (bt116.1.length : Int) = 2 then (if 0 < (bt116.1.length : Int) then (if (rdOf ByteArray.empty bt116.1 0).toList = ([65, 58, 49, 50] : List UInt8) then (if 1 < (bt116.1.length : Int) then (if (rdOf ByteArray.empty bt116.1 1).toList = ([66, 58] : List UInt8) then (if bt120.2 = 20 then ((fold_Fold.f (([(⟨#[97, 98]⟩ : ByteArray)] : List ByteArray))).bind fun t129 => (some (t129.toList == ([97, 98, 13, 10] : List UInt8)))) else (some false)) else (some false)) else (none)) else (some false)) else (none)) else (some false)) else (some false)))
theorem calepinlaw02_first.mono : ∀ k, LeO (calepinlaw02_first.f k ) (calepinlaw02_first.f (k + 1) ) := by
  intro  k
  unfold calepinlaw02_first.f
  repeat' first
      | (with_reducible exact fold_Unfold.mono _ _)
      | (with_reducible exact LeO.refl _)
      | (with_reducible exact LeO.none _)
      | (with_reducible refine LeO.ite ?_ ?_)
      | (with_reducible refine LeO.bind ?_ (fun _ => ?_))
      | exact fold_Unfold.mono _ _
      | exact LeO.none _
      | refine LeO.ite ?_ ?_
      | refine LeO.bind ?_ (fun _ => ?_)
set_option maxHeartbeats 8000000 in
set_option maxRecDepth 100000 in
theorem calepinlaw02_first.calls (k : Nat)  (r : Bool) (w : World) (hE : Env w) (h : calepinlaw02_first.f k  = some r) :
    Calls Tryd.prog 8 #[] w fun e w' => e = .returned (.bool r) ∧ Below w.heap.size w w' := by
  have HE := Aside0.mk hE
  clear hE
  have HB := Aside0.mk (Below.refl w.heap.size w)
  have H : ((fold_Unfold.f k (⟨#[65, 58, 49, 13, 10, 32, 50, 10, 66, 58, 10]⟩ : ByteArray)).bind fun bt116 => ((fold_Unfold.f k (⟨#[32, 65, 10]⟩ : ByteArray)).bind fun bt120 => (if bt116.2 = 0 then (if (bt116.1.length : Int) = 2 then (if 0 < (bt116.1.length : Int) then (if (rdOf ByteArray.empty bt116.1 0).toList = ([65, 58, 49, 50] : List UInt8) then (if 1 < (bt116.1.length : Int) then (if (rdOf ByteArray.empty bt116.1 1).toList = ([66, 58] : List UInt8) then (if bt120.2 = 20 then ((fold_Fold.f (([(⟨#[97, 98]⟩ : ByteArray)] : List ByteArray))).bind fun t129 => (some (t129.toList == ([97, 98, 13, 10] : List UInt8)))) else (some false)) else (some false)) else (none)) else (some false)) else (none)) else (some false)) else (some false)))) = some r := h
  clear h
  replace H := Option.bind_eq_some_iff.mp H
  obtain ⟨⟨t116, t117⟩, A10, H⟩ := H
  replace H : ((fold_Unfold.f k (⟨#[32, 65, 10]⟩ : ByteArray)).bind fun bt120 => (if t117 = 0 then (if (t116.length : Int) = 2 then (if 0 < (t116.length : Int) then (if (rdOf ByteArray.empty t116 0).toList = ([65, 58, 49, 50] : List UInt8) then (if 1 < (t116.length : Int) then (if (rdOf ByteArray.empty t116 1).toList = ([66, 58] : List UInt8) then (if bt120.2 = 20 then ((fold_Fold.f (([(⟨#[97, 98]⟩ : ByteArray)] : List ByteArray))).bind fun t129 => (some (t129.toList == ([97, 98, 13, 10] : List UInt8)))) else (some false)) else (some false)) else (none)) else (some false)) else (none)) else (some false)) else (some false))) = some r := H
  have A1 := Aside0.mk A10
  clear A10
  replace H := Option.bind_eq_some_iff.mp H
  obtain ⟨⟨t120, t121⟩, A20, H⟩ := H
  replace H : (if t117 = 0 then (if (t116.length : Int) = 2 then (if 0 < (t116.length : Int) then (if (rdOf ByteArray.empty t116 0).toList = ([65, 58, 49, 50] : List UInt8) then (if 1 < (t116.length : Int) then (if (rdOf ByteArray.empty t116 1).toList = ([66, 58] : List UInt8) then (if t121 = 20 then ((fold_Fold.f (([(⟨#[97, 98]⟩ : ByteArray)] : List ByteArray))).bind fun t129 => (some (t129.toList == ([97, 98, 13, 10] : List UInt8)))) else (some false)) else (some false)) else (none)) else (some false)) else (none)) else (some false)) else (some false)) = some r := H
  have A2 := Aside0.mk A20
  clear A20
  by_cases c3 : t117 = 0
  · rw [if_pos c3] at H
    have c3b0 : (t117 == 0) = true := beq_iff_eq.mpr c3
    have c3b1 : (t117 != 0) = false := bne_eq_false_iff_eq.mpr c3
    clear c3
    by_cases c4 : (t116.length : Int) = 2
    · rw [if_pos c4] at H
      have c4b0 : ((t116.length : Int) == 2) = true := beq_iff_eq.mpr c4
      have c4b1 : ((t116.length : Int) != 2) = false := bne_eq_false_iff_eq.mpr c4
      clear c4
      by_cases c5 : 0 < (t116.length : Int)
      · rw [if_pos c5] at H
        have c5b0 : decide (0 < (t116.length : Int)) = true := decide_eq_true c5
        have c5b1 : decide (0 < t116.length) = true := decide_eq_true (by omega)
        clear c5
        by_cases c6 : (rdOf ByteArray.empty t116 0).toList = ([65, 58, 49, 50] : List UInt8)
        · rw [if_pos c6] at H
          have c6b0 : ((rdOf ByteArray.empty t116 0).toList == ([65, 58, 49, 50] : List UInt8)) = true := beq_iff_eq.mpr c6
          have c6b1 : ((rdOf ByteArray.empty t116 0).toList != ([65, 58, 49, 50] : List UInt8)) = false := bne_eq_false_iff_eq.mpr c6
          clear c6
          by_cases c7 : 1 < (t116.length : Int)
          · rw [if_pos c7] at H
            have c7b0 : decide (1 < (t116.length : Int)) = true := decide_eq_true c7
            have c7b1 : decide (1 < t116.length) = true := decide_eq_true (by omega)
            clear c7
            by_cases c8 : (rdOf ByteArray.empty t116 1).toList = ([66, 58] : List UInt8)
            · rw [if_pos c8] at H
              have c8b0 : ((rdOf ByteArray.empty t116 1).toList == ([66, 58] : List UInt8)) = true := beq_iff_eq.mpr c8
              have c8b1 : ((rdOf ByteArray.empty t116 1).toList != ([66, 58] : List UInt8)) = false := bne_eq_false_iff_eq.mpr c8
              clear c8
              by_cases c9 : t121 = 20
              · rw [if_pos c9] at H
                have c9b0 : (t121 == 20) = true := beq_iff_eq.mpr c9
                have c9b1 : (t121 != 20) = false := bne_eq_false_iff_eq.mpr c9
                clear c9
                obtain ⟨y126, hy126⟩ : ∃ y_ : List ByteArray, y_ = (([(⟨#[97, 98]⟩ : ByteArray)] : List ByteArray)) := ⟨_, rfl⟩
                replace H : ((fold_Fold.f y126).bind fun t129 => (some (t129.toList == ([97, 98, 13, 10] : List UInt8)))) = some r := by first | (rw [hy126]; with_reducible exact H) | (have H2_ := (Option.bind_some _ _).symm.trans H; rw [hy126]; with_reducible exact H2_) | (have H2_ := (Option.bind_some _ _).symm.trans H; with_reducible exact H2_) | with_reducible exact H | (rw [hy126]; exact H) | exact H
                have Ny126 := Aside0.mk hy126
                clear hy126
                replace H := Option.bind_eq_some_iff.mp H
                obtain ⟨t129, A100, H⟩ := H
                replace H : (some (t129.toList == ([97, 98, 13, 10] : List UInt8))) = some r := H
                have A10 := Aside0.mk A100
                clear A100
                obtain rfl := Option.some.inj H
                go_enter Tryd.func8, Tryd.ntmps8
                go_wp2_with (first | ((with_reducible refine gate_callee (f := 9) rfl ?_); refine goesL_ (some 6) rfl rfl Tryd.func9 (by kernel_rfl) rfl #[.string (⟨#[65, 58, 49, 13, 10, 32, 50, 10, 66, 58, 10]⟩ : ByteArray)] rfl (by (try simp only [List.map_toArray, List.map_cons, List.map_nil]); first | done | rfl | (simp only [List.length_drop, List.length_take]; rfl)) ?_; (with_reducible refine (fold_Unfold.calls k (⟨#[65, 58, 49, 13, 10, 32, 50, 10, 66, 58, 10]⟩ : ByteArray) t116 t117 _ (env_at HE.out (by repeat (first | (with_reducible first | exact HB.out | apply below_alloc | apply pw_below_drewN | apply below_drew1) | exact HB.out))) A1.out).mono ?_); rintro e w11 ⟨v118, rfl, ho0, hb⟩; refine ⟨_, rfl, ?_⟩; have n0_ := Aside0.mk (Kd.R_lower ho0 (below_size (by repeat (first | (with_reducible first | exact HB.out | apply below_alloc | apply pw_below_drewN | apply below_drew1) | exact HB.out)))); have n1_ := Aside0.mk (below_step (by repeat (first | (with_reducible first | exact HB.out | apply below_alloc | apply pw_below_drewN | apply below_drew1) | exact HB.out)) hb); clear HB; have HO119 := n0_; have HB := n1_; clear n0_ n1_; (try clear hb); (try clear hb2); (try clear hk); (try clear hi); (try clear ho0)) | ((with_reducible refine gate_callee (f := 9) rfl ?_); refine goesL_ (some 10) rfl rfl Tryd.func9 (by kernel_rfl) rfl #[.string (⟨#[32, 65, 10]⟩ : ByteArray)] rfl (by (try simp only [List.map_toArray, List.map_cons, List.map_nil]); first | done | rfl | (simp only [List.length_drop, List.length_take]; rfl)) ?_; (with_reducible refine (fold_Unfold.calls k (⟨#[32, 65, 10]⟩ : ByteArray) t120 t121 _ (env_at HE.out (by repeat (first | (with_reducible first | exact HB.out | apply below_alloc | apply pw_below_drewN | apply below_drew1) | exact HB.out))) A2.out).mono ?_); rintro e w12 ⟨v122, rfl, ho0, hb⟩; refine ⟨_, rfl, ?_⟩; have n0_ := Aside0.mk (Kd.R_elder' (by (with_reducible repeat (first | apply Kd.R_alloc | apply Kd.R_drewN | apply Kd.R_drew)); exact HO119.out) (Kd.R_base ho0) hb); have n1_ := Aside0.mk (Kd.R_lower (Kd.R_new' ho0 (Kd.R_lt (by (with_reducible repeat (first | apply Kd.R_alloc | apply Kd.R_drewN | apply Kd.R_drew)); exact HO119.out))) (below_size (by repeat (first | (with_reducible first | exact HB.out | apply below_alloc | apply pw_below_drewN | apply below_drew1) | exact HB.out)))); have n2_ := Aside0.mk (below_step (by repeat (first | (with_reducible first | exact HB.out | apply below_alloc | apply pw_below_drewN | apply below_drew1) | exact HB.out)) hb); clear HO119; clear HB; have HO119 := n0_; have HO123 := n1_; have HB := n2_; clear n0_ n1_ n2_; (try clear hb); (try clear hb2); (try clear hk); (try clear hi); (try clear ho0); obtain ⟨Ao13, co13, eo13⟩ := Kd.R_slice HO119.out; subst eo13; have p124 : 0 ≤ (0 : Int) := (by omega); have q124 : 0 < (t116.length : Int) := of_decide_eq_true (by first | (with_reducible assumption) | assumption); obtain ⟨ad124, e124, hx124_0⟩ := Kd.at_string (Kd.R_reads' HO119.out).2.2 0 p124 q124; cases e124; have qi124 : (0 < t116.length) = True := eq_true (by omega); (try rw [show ((0 : Int)).toNat = 0 from rfl] at hx124_0); (try rw [Addr.add_zero'] at hx124_0); replace p124 := eq_true p124; replace q124 := eq_true q124; have p125 : 0 ≤ (1 : Int) := (by omega); have q125 : 1 < (t116.length : Int) := of_decide_eq_true (by first | (with_reducible assumption) | assumption); obtain ⟨ad125, e125, hx125_0⟩ := Kd.at_string (Kd.R_reads' HO119.out).2.2 1 p125 q125; obtain rfl : ad124 = ad125 := (by injection e125); (try simp only [show (1 : Int).toNat = 1 from rfl, Nat.reduceMul, Nat.reduceEqDiff, Go.Addr.add, ↓reduceIte] at hx125_0); have qi125 : (1 < t116.length) = True := eq_true (by omega); (try rw [show ((1 : Int)).toNat = 1 from rfl] at hx125_0); replace p125 := eq_true p125; replace q125 := eq_true q125) | ((with_reducible refine gate_dst (N := 37) rfl ?_); (try (refine gate_guard (by rfl) ?_; dsimp only)); refine Kd.R_lit Kd.string _ 9 ?hg (N := 37) ?hd (xs := ([(⟨#[97, 98]⟩ : ByteArray)] : List ByteArray)) (inner := [.string (⟨#[97, 98]⟩ : ByteArray)]) (ok := fun _ => True) (okp := fun _ => True) ?hr ?hp (fun _ hk => hk) trivial (Below.refl _ _) (Nat.le_refl _) (by simp) ?_; (case hd => rfl); (case hg => rfl); (case hr => first | (go_simp; done) | (go_simp; rfl)); (case hp => exact (Reps.one (show Kd.M Kd.string _ _ _ (⟨#[97, 98]⟩ : ByteArray) [.string (⟨#[97, 98]⟩ : ByteArray)] from rfl) (Reps.none _ _))); intro v127 w14 ho15 hb hg_ hnew_; clear hg_ hnew_; (first | rw [← Ny126.out] at ho15 | (simp only [Int.reduceToNat] at ho15; rw [← Ny126.out] at ho15)); have n0_ := Aside0.mk (Kd.R_elder' (by (with_reducible repeat (first | apply Kd.R_alloc | apply Kd.R_drewN | apply Kd.R_drew)); exact HO119.out) (Kd.R_base ho15) hb); have n1_ := Aside0.mk (Kd.R_elder' (by (with_reducible repeat (first | apply Kd.R_alloc | apply Kd.R_drewN | apply Kd.R_drew)); exact HO123.out) (Kd.R_base ho15) hb); have n2_ := Aside0.mk (Kd.R_lower (Kd.R_new' (Kd.R_new' ho15 (Kd.R_lt (by (with_reducible repeat (first | apply Kd.R_alloc | apply Kd.R_drewN | apply Kd.R_drew)); exact HO119.out))) (Kd.R_lt (by (with_reducible repeat (first | apply Kd.R_alloc | apply Kd.R_drewN | apply Kd.R_drew)); exact HO123.out))) (below_size (by repeat (first | (with_reducible first | exact HB.out | apply below_alloc | apply pw_below_drewN | apply below_drew1) | exact HB.out)))); have n3_ := Aside0.mk (below_step (by repeat (first | (with_reducible first | exact HB.out | apply below_alloc | apply pw_below_drewN | apply below_drew1) | exact HB.out)) hb); clear HO119; clear HO123; clear HB; have HO119 := n0_; have HO123 := n1_; have HO128 := n2_; have HB := n3_; clear n0_ n1_ n2_ n3_; clear hb ho15; obtain ⟨Ao16, co16, eo16⟩ := Kd.R_slice HO128.out; subst eo16) | (go_at_call 12; (with_reducible refine (fold_Fold.calls _ _ y126 t129 _ ?side1 ?side2 (env_at HE.out (by repeat (first | (with_reducible first | exact HB.out | apply below_alloc | apply pw_below_drewN | apply below_drew1) | exact HB.out))) A10.out).mono ?_); (case side1 => repeat (first | exact (Kd.R_reads' HO128.out).2.2 | (with_reducible refine Kd.C_alloc ?_ _) | (with_reducible refine Kd.C_drewN ?_ _) | (with_reducible refine Kd.C_drew ?_))); (case side2 => exact (Kd.R_reads' HO128.out).2.1); rintro e w17 ⟨rfl, hb⟩; have n0_ := Aside0.mk (Kd.R_below (by (with_reducible repeat (first | apply Kd.R_alloc | apply Kd.R_drewN | apply Kd.R_drew)); exact HO119.out) hb); have n1_ := Aside0.mk (Kd.R_below (by (with_reducible repeat (first | apply Kd.R_alloc | apply Kd.R_drewN | apply Kd.R_drew)); exact HO123.out) hb); have n2_ := Aside0.mk (Kd.R_below (by (with_reducible repeat (first | apply Kd.R_alloc | apply Kd.R_drewN | apply Kd.R_drew)); exact HO128.out) hb); have n3_ := Aside0.mk (below_step (by repeat (first | (with_reducible first | exact HB.out | apply below_alloc | apply pw_below_drewN | apply below_drew1) | exact HB.out)) hb); clear HO119; clear HO123; clear HO128; clear HB; have HO119 := n0_; have HO123 := n1_; have HO128 := n2_; have HB := n3_; clear n0_ n1_ n2_ n3_; (try clear hb); (try clear hb2); (try clear hk); (try clear hi)))
                go_ret
                exact ⟨by first | rfl | (simp [errW_none, errW_some] <;> rfl) | (simp [*, errW_none, errW_some] <;> rfl), by repeat (first | (with_reducible first | exact HB.out | apply below_alloc | apply pw_below_drewN | apply below_drew1) | exact HB.out)⟩
              · rw [if_neg c9] at H
                have c9b0 : (t121 == 20) = false := beq_eq_false_iff_ne.mpr c9
                have c9b1 : (t121 != 20) = true := bne_iff_ne.mpr c9
                obtain rfl := Option.some.inj H
                go_enter Tryd.func8, Tryd.ntmps8
                go_wp2_with (first | ((with_reducible refine gate_callee (f := 9) rfl ?_); refine goesL_ (some 6) rfl rfl Tryd.func9 (by kernel_rfl) rfl #[.string (⟨#[65, 58, 49, 13, 10, 32, 50, 10, 66, 58, 10]⟩ : ByteArray)] rfl (by (try simp only [List.map_toArray, List.map_cons, List.map_nil]); first | done | rfl | (simp only [List.length_drop, List.length_take]; rfl)) ?_; (with_reducible refine (fold_Unfold.calls k (⟨#[65, 58, 49, 13, 10, 32, 50, 10, 66, 58, 10]⟩ : ByteArray) t116 t117 _ (env_at HE.out (by repeat (first | (with_reducible first | exact HB.out | apply below_alloc | apply pw_below_drewN | apply below_drew1) | exact HB.out))) A1.out).mono ?_); rintro e w18 ⟨v118, rfl, ho0, hb⟩; refine ⟨_, rfl, ?_⟩; have n0_ := Aside0.mk (Kd.R_lower ho0 (below_size (by repeat (first | (with_reducible first | exact HB.out | apply below_alloc | apply pw_below_drewN | apply below_drew1) | exact HB.out)))); have n1_ := Aside0.mk (below_step (by repeat (first | (with_reducible first | exact HB.out | apply below_alloc | apply pw_below_drewN | apply below_drew1) | exact HB.out)) hb); clear HB; have HO119 := n0_; have HB := n1_; clear n0_ n1_; (try clear hb); (try clear hb2); (try clear hk); (try clear hi); (try clear ho0)) | ((with_reducible refine gate_callee (f := 9) rfl ?_); refine goesL_ (some 10) rfl rfl Tryd.func9 (by kernel_rfl) rfl #[.string (⟨#[32, 65, 10]⟩ : ByteArray)] rfl (by (try simp only [List.map_toArray, List.map_cons, List.map_nil]); first | done | rfl | (simp only [List.length_drop, List.length_take]; rfl)) ?_; (with_reducible refine (fold_Unfold.calls k (⟨#[32, 65, 10]⟩ : ByteArray) t120 t121 _ (env_at HE.out (by repeat (first | (with_reducible first | exact HB.out | apply below_alloc | apply pw_below_drewN | apply below_drew1) | exact HB.out))) A2.out).mono ?_); rintro e w19 ⟨v122, rfl, ho0, hb⟩; refine ⟨_, rfl, ?_⟩; have n0_ := Aside0.mk (Kd.R_elder' (by (with_reducible repeat (first | apply Kd.R_alloc | apply Kd.R_drewN | apply Kd.R_drew)); exact HO119.out) (Kd.R_base ho0) hb); have n1_ := Aside0.mk (Kd.R_lower (Kd.R_new' ho0 (Kd.R_lt (by (with_reducible repeat (first | apply Kd.R_alloc | apply Kd.R_drewN | apply Kd.R_drew)); exact HO119.out))) (below_size (by repeat (first | (with_reducible first | exact HB.out | apply below_alloc | apply pw_below_drewN | apply below_drew1) | exact HB.out)))); have n2_ := Aside0.mk (below_step (by repeat (first | (with_reducible first | exact HB.out | apply below_alloc | apply pw_below_drewN | apply below_drew1) | exact HB.out)) hb); clear HO119; clear HB; have HO119 := n0_; have HO123 := n1_; have HB := n2_; clear n0_ n1_ n2_; (try clear hb); (try clear hb2); (try clear hk); (try clear hi); (try clear ho0); obtain ⟨Ao20, co20, eo20⟩ := Kd.R_slice HO119.out; subst eo20; have p124 : 0 ≤ (0 : Int) := (by omega); have q124 : 0 < (t116.length : Int) := of_decide_eq_true (by first | (with_reducible assumption) | assumption); obtain ⟨ad124, e124, hx124_0⟩ := Kd.at_string (Kd.R_reads' HO119.out).2.2 0 p124 q124; cases e124; have qi124 : (0 < t116.length) = True := eq_true (by omega); (try rw [show ((0 : Int)).toNat = 0 from rfl] at hx124_0); (try rw [Addr.add_zero'] at hx124_0); replace p124 := eq_true p124; replace q124 := eq_true q124; have p125 : 0 ≤ (1 : Int) := (by omega); have q125 : 1 < (t116.length : Int) := of_decide_eq_true (by first | (with_reducible assumption) | assumption); obtain ⟨ad125, e125, hx125_0⟩ := Kd.at_string (Kd.R_reads' HO119.out).2.2 1 p125 q125; obtain rfl : ad124 = ad125 := (by injection e125); (try simp only [show (1 : Int).toNat = 1 from rfl, Nat.reduceMul, Nat.reduceEqDiff, Go.Addr.add, ↓reduceIte] at hx125_0); have qi125 : (1 < t116.length) = True := eq_true (by omega); (try rw [show ((1 : Int)).toNat = 1 from rfl] at hx125_0); replace p125 := eq_true p125; replace q125 := eq_true q125))
                go_ret
                exact ⟨by first | rfl | (simp [errW_none, errW_some] <;> rfl) | (simp [*, errW_none, errW_some] <;> rfl), by repeat (first | (with_reducible first | exact HB.out | apply below_alloc | apply pw_below_drewN | apply below_drew1) | exact HB.out)⟩
            · rw [if_neg c8] at H
              have c8b0 : ((rdOf ByteArray.empty t116 1).toList == ([66, 58] : List UInt8)) = false := beq_eq_false_iff_ne.mpr c8
              have c8b1 : ((rdOf ByteArray.empty t116 1).toList != ([66, 58] : List UInt8)) = true := bne_iff_ne.mpr c8
              obtain rfl := Option.some.inj H
              go_enter Tryd.func8, Tryd.ntmps8
              go_wp2_with (first | ((with_reducible refine gate_callee (f := 9) rfl ?_); refine goesL_ (some 6) rfl rfl Tryd.func9 (by kernel_rfl) rfl #[.string (⟨#[65, 58, 49, 13, 10, 32, 50, 10, 66, 58, 10]⟩ : ByteArray)] rfl (by (try simp only [List.map_toArray, List.map_cons, List.map_nil]); first | done | rfl | (simp only [List.length_drop, List.length_take]; rfl)) ?_; (with_reducible refine (fold_Unfold.calls k (⟨#[65, 58, 49, 13, 10, 32, 50, 10, 66, 58, 10]⟩ : ByteArray) t116 t117 _ (env_at HE.out (by repeat (first | (with_reducible first | exact HB.out | apply below_alloc | apply pw_below_drewN | apply below_drew1) | exact HB.out))) A1.out).mono ?_); rintro e w21 ⟨v118, rfl, ho0, hb⟩; refine ⟨_, rfl, ?_⟩; have n0_ := Aside0.mk (Kd.R_lower ho0 (below_size (by repeat (first | (with_reducible first | exact HB.out | apply below_alloc | apply pw_below_drewN | apply below_drew1) | exact HB.out)))); have n1_ := Aside0.mk (below_step (by repeat (first | (with_reducible first | exact HB.out | apply below_alloc | apply pw_below_drewN | apply below_drew1) | exact HB.out)) hb); clear HB; have HO119 := n0_; have HB := n1_; clear n0_ n1_; (try clear hb); (try clear hb2); (try clear hk); (try clear hi); (try clear ho0)) | ((with_reducible refine gate_callee (f := 9) rfl ?_); refine goesL_ (some 10) rfl rfl Tryd.func9 (by kernel_rfl) rfl #[.string (⟨#[32, 65, 10]⟩ : ByteArray)] rfl (by (try simp only [List.map_toArray, List.map_cons, List.map_nil]); first | done | rfl | (simp only [List.length_drop, List.length_take]; rfl)) ?_; (with_reducible refine (fold_Unfold.calls k (⟨#[32, 65, 10]⟩ : ByteArray) t120 t121 _ (env_at HE.out (by repeat (first | (with_reducible first | exact HB.out | apply below_alloc | apply pw_below_drewN | apply below_drew1) | exact HB.out))) A2.out).mono ?_); rintro e w22 ⟨v122, rfl, ho0, hb⟩; refine ⟨_, rfl, ?_⟩; have n0_ := Aside0.mk (Kd.R_elder' (by (with_reducible repeat (first | apply Kd.R_alloc | apply Kd.R_drewN | apply Kd.R_drew)); exact HO119.out) (Kd.R_base ho0) hb); have n1_ := Aside0.mk (Kd.R_lower (Kd.R_new' ho0 (Kd.R_lt (by (with_reducible repeat (first | apply Kd.R_alloc | apply Kd.R_drewN | apply Kd.R_drew)); exact HO119.out))) (below_size (by repeat (first | (with_reducible first | exact HB.out | apply below_alloc | apply pw_below_drewN | apply below_drew1) | exact HB.out)))); have n2_ := Aside0.mk (below_step (by repeat (first | (with_reducible first | exact HB.out | apply below_alloc | apply pw_below_drewN | apply below_drew1) | exact HB.out)) hb); clear HO119; clear HB; have HO119 := n0_; have HO123 := n1_; have HB := n2_; clear n0_ n1_ n2_; (try clear hb); (try clear hb2); (try clear hk); (try clear hi); (try clear ho0); obtain ⟨Ao23, co23, eo23⟩ := Kd.R_slice HO119.out; subst eo23; have p124 : 0 ≤ (0 : Int) := (by omega); have q124 : 0 < (t116.length : Int) := of_decide_eq_true (by first | (with_reducible assumption) | assumption); obtain ⟨ad124, e124, hx124_0⟩ := Kd.at_string (Kd.R_reads' HO119.out).2.2 0 p124 q124; cases e124; have qi124 : (0 < t116.length) = True := eq_true (by omega); (try rw [show ((0 : Int)).toNat = 0 from rfl] at hx124_0); (try rw [Addr.add_zero'] at hx124_0); replace p124 := eq_true p124; replace q124 := eq_true q124; have p125 : 0 ≤ (1 : Int) := (by omega); have q125 : 1 < (t116.length : Int) := of_decide_eq_true (by first | (with_reducible assumption) | assumption); obtain ⟨ad125, e125, hx125_0⟩ := Kd.at_string (Kd.R_reads' HO119.out).2.2 1 p125 q125; obtain rfl : ad124 = ad125 := (by injection e125); (try simp only [show (1 : Int).toNat = 1 from rfl, Nat.reduceMul, Nat.reduceEqDiff, Go.Addr.add, ↓reduceIte] at hx125_0); have qi125 : (1 < t116.length) = True := eq_true (by omega); (try rw [show ((1 : Int)).toNat = 1 from rfl] at hx125_0); replace p125 := eq_true p125; replace q125 := eq_true q125))
              go_ret
              exact ⟨by first | rfl | (simp [errW_none, errW_some] <;> rfl) | (simp [*, errW_none, errW_some] <;> rfl), by repeat (first | (with_reducible first | exact HB.out | apply below_alloc | apply pw_below_drewN | apply below_drew1) | exact HB.out)⟩
          · rw [if_neg c7] at H
            exact absurd H (by simp)
        · rw [if_neg c6] at H
          have c6b0 : ((rdOf ByteArray.empty t116 0).toList == ([65, 58, 49, 50] : List UInt8)) = false := beq_eq_false_iff_ne.mpr c6
          have c6b1 : ((rdOf ByteArray.empty t116 0).toList != ([65, 58, 49, 50] : List UInt8)) = true := bne_iff_ne.mpr c6
          obtain rfl := Option.some.inj H
          go_enter Tryd.func8, Tryd.ntmps8
          go_wp2_with (first | ((with_reducible refine gate_callee (f := 9) rfl ?_); refine goesL_ (some 6) rfl rfl Tryd.func9 (by kernel_rfl) rfl #[.string (⟨#[65, 58, 49, 13, 10, 32, 50, 10, 66, 58, 10]⟩ : ByteArray)] rfl (by (try simp only [List.map_toArray, List.map_cons, List.map_nil]); first | done | rfl | (simp only [List.length_drop, List.length_take]; rfl)) ?_; (with_reducible refine (fold_Unfold.calls k (⟨#[65, 58, 49, 13, 10, 32, 50, 10, 66, 58, 10]⟩ : ByteArray) t116 t117 _ (env_at HE.out (by repeat (first | (with_reducible first | exact HB.out | apply below_alloc | apply pw_below_drewN | apply below_drew1) | exact HB.out))) A1.out).mono ?_); rintro e w24 ⟨v118, rfl, ho0, hb⟩; refine ⟨_, rfl, ?_⟩; have n0_ := Aside0.mk (Kd.R_lower ho0 (below_size (by repeat (first | (with_reducible first | exact HB.out | apply below_alloc | apply pw_below_drewN | apply below_drew1) | exact HB.out)))); have n1_ := Aside0.mk (below_step (by repeat (first | (with_reducible first | exact HB.out | apply below_alloc | apply pw_below_drewN | apply below_drew1) | exact HB.out)) hb); clear HB; have HO119 := n0_; have HB := n1_; clear n0_ n1_; (try clear hb); (try clear hb2); (try clear hk); (try clear hi); (try clear ho0)) | ((with_reducible refine gate_callee (f := 9) rfl ?_); refine goesL_ (some 10) rfl rfl Tryd.func9 (by kernel_rfl) rfl #[.string (⟨#[32, 65, 10]⟩ : ByteArray)] rfl (by (try simp only [List.map_toArray, List.map_cons, List.map_nil]); first | done | rfl | (simp only [List.length_drop, List.length_take]; rfl)) ?_; (with_reducible refine (fold_Unfold.calls k (⟨#[32, 65, 10]⟩ : ByteArray) t120 t121 _ (env_at HE.out (by repeat (first | (with_reducible first | exact HB.out | apply below_alloc | apply pw_below_drewN | apply below_drew1) | exact HB.out))) A2.out).mono ?_); rintro e w25 ⟨v122, rfl, ho0, hb⟩; refine ⟨_, rfl, ?_⟩; have n0_ := Aside0.mk (Kd.R_elder' (by (with_reducible repeat (first | apply Kd.R_alloc | apply Kd.R_drewN | apply Kd.R_drew)); exact HO119.out) (Kd.R_base ho0) hb); have n1_ := Aside0.mk (Kd.R_lower (Kd.R_new' ho0 (Kd.R_lt (by (with_reducible repeat (first | apply Kd.R_alloc | apply Kd.R_drewN | apply Kd.R_drew)); exact HO119.out))) (below_size (by repeat (first | (with_reducible first | exact HB.out | apply below_alloc | apply pw_below_drewN | apply below_drew1) | exact HB.out)))); have n2_ := Aside0.mk (below_step (by repeat (first | (with_reducible first | exact HB.out | apply below_alloc | apply pw_below_drewN | apply below_drew1) | exact HB.out)) hb); clear HO119; clear HB; have HO119 := n0_; have HO123 := n1_; have HB := n2_; clear n0_ n1_ n2_; (try clear hb); (try clear hb2); (try clear hk); (try clear hi); (try clear ho0); obtain ⟨Ao26, co26, eo26⟩ := Kd.R_slice HO119.out; subst eo26; have p124 : 0 ≤ (0 : Int) := (by omega); have q124 : 0 < (t116.length : Int) := of_decide_eq_true (by first | (with_reducible assumption) | assumption); obtain ⟨ad124, e124, hx124_0⟩ := Kd.at_string (Kd.R_reads' HO119.out).2.2 0 p124 q124; cases e124; have qi124 : (0 < t116.length) = True := eq_true (by omega); (try rw [show ((0 : Int)).toNat = 0 from rfl] at hx124_0); (try rw [Addr.add_zero'] at hx124_0); replace p124 := eq_true p124; replace q124 := eq_true q124))
          go_ret
          exact ⟨by first | rfl | (simp [errW_none, errW_some] <;> rfl) | (simp [*, errW_none, errW_some] <;> rfl), by repeat (first | (with_reducible first | exact HB.out | apply below_alloc | apply pw_below_drewN | apply below_drew1) | exact HB.out)⟩
      · rw [if_neg c5] at H
        exact absurd H (by simp)
    · rw [if_neg c4] at H
      have c4b0 : ((t116.length : Int) == 2) = false := beq_eq_false_iff_ne.mpr c4
      have c4b1 : ((t116.length : Int) != 2) = true := bne_iff_ne.mpr c4
      obtain rfl := Option.some.inj H
      go_enter Tryd.func8, Tryd.ntmps8
      go_wp2_with (first | ((with_reducible refine gate_callee (f := 9) rfl ?_); refine goesL_ (some 6) rfl rfl Tryd.func9 (by kernel_rfl) rfl #[.string (⟨#[65, 58, 49, 13, 10, 32, 50, 10, 66, 58, 10]⟩ : ByteArray)] rfl (by (try simp only [List.map_toArray, List.map_cons, List.map_nil]); first | done | rfl | (simp only [List.length_drop, List.length_take]; rfl)) ?_; (with_reducible refine (fold_Unfold.calls k (⟨#[65, 58, 49, 13, 10, 32, 50, 10, 66, 58, 10]⟩ : ByteArray) t116 t117 _ (env_at HE.out (by repeat (first | (with_reducible first | exact HB.out | apply below_alloc | apply pw_below_drewN | apply below_drew1) | exact HB.out))) A1.out).mono ?_); rintro e w27 ⟨v118, rfl, ho0, hb⟩; refine ⟨_, rfl, ?_⟩; have n0_ := Aside0.mk (Kd.R_lower ho0 (below_size (by repeat (first | (with_reducible first | exact HB.out | apply below_alloc | apply pw_below_drewN | apply below_drew1) | exact HB.out)))); have n1_ := Aside0.mk (below_step (by repeat (first | (with_reducible first | exact HB.out | apply below_alloc | apply pw_below_drewN | apply below_drew1) | exact HB.out)) hb); clear HB; have HO119 := n0_; have HB := n1_; clear n0_ n1_; (try clear hb); (try clear hb2); (try clear hk); (try clear hi); (try clear ho0)) | ((with_reducible refine gate_callee (f := 9) rfl ?_); refine goesL_ (some 10) rfl rfl Tryd.func9 (by kernel_rfl) rfl #[.string (⟨#[32, 65, 10]⟩ : ByteArray)] rfl (by (try simp only [List.map_toArray, List.map_cons, List.map_nil]); first | done | rfl | (simp only [List.length_drop, List.length_take]; rfl)) ?_; (with_reducible refine (fold_Unfold.calls k (⟨#[32, 65, 10]⟩ : ByteArray) t120 t121 _ (env_at HE.out (by repeat (first | (with_reducible first | exact HB.out | apply below_alloc | apply pw_below_drewN | apply below_drew1) | exact HB.out))) A2.out).mono ?_); rintro e w28 ⟨v122, rfl, ho0, hb⟩; refine ⟨_, rfl, ?_⟩; have n0_ := Aside0.mk (Kd.R_elder' (by (with_reducible repeat (first | apply Kd.R_alloc | apply Kd.R_drewN | apply Kd.R_drew)); exact HO119.out) (Kd.R_base ho0) hb); have n1_ := Aside0.mk (Kd.R_lower (Kd.R_new' ho0 (Kd.R_lt (by (with_reducible repeat (first | apply Kd.R_alloc | apply Kd.R_drewN | apply Kd.R_drew)); exact HO119.out))) (below_size (by repeat (first | (with_reducible first | exact HB.out | apply below_alloc | apply pw_below_drewN | apply below_drew1) | exact HB.out)))); have n2_ := Aside0.mk (below_step (by repeat (first | (with_reducible first | exact HB.out | apply below_alloc | apply pw_below_drewN | apply below_drew1) | exact HB.out)) hb); clear HO119; clear HB; have HO119 := n0_; have HO123 := n1_; have HB := n2_; clear n0_ n1_ n2_; (try clear hb); (try clear hb2); (try clear hk); (try clear hi); (try clear ho0); obtain ⟨Ao29, co29, eo29⟩ := Kd.R_slice HO119.out; subst eo29))
      go_ret
      exact ⟨by first | rfl | (simp [errW_none, errW_some] <;> rfl) | (simp [*, errW_none, errW_some] <;> rfl), by repeat (first | (with_reducible first | exact HB.out | apply below_alloc | apply pw_below_drewN | apply below_drew1) | exact HB.out)⟩
  · rw [if_neg c3] at H
    have c3b0 : (t117 == 0) = false := beq_eq_false_iff_ne.mpr c3
    have c3b1 : (t117 != 0) = true := bne_iff_ne.mpr c3
    obtain rfl := Option.some.inj H
    go_enter Tryd.func8, Tryd.ntmps8
    go_wp2_with (first | ((with_reducible refine gate_callee (f := 9) rfl ?_); refine goesL_ (some 6) rfl rfl Tryd.func9 (by kernel_rfl) rfl #[.string (⟨#[65, 58, 49, 13, 10, 32, 50, 10, 66, 58, 10]⟩ : ByteArray)] rfl (by (try simp only [List.map_toArray, List.map_cons, List.map_nil]); first | done | rfl | (simp only [List.length_drop, List.length_take]; rfl)) ?_; (with_reducible refine (fold_Unfold.calls k (⟨#[65, 58, 49, 13, 10, 32, 50, 10, 66, 58, 10]⟩ : ByteArray) t116 t117 _ (env_at HE.out (by repeat (first | (with_reducible first | exact HB.out | apply below_alloc | apply pw_below_drewN | apply below_drew1) | exact HB.out))) A1.out).mono ?_); rintro e w30 ⟨v118, rfl, ho0, hb⟩; refine ⟨_, rfl, ?_⟩; have n0_ := Aside0.mk (Kd.R_lower ho0 (below_size (by repeat (first | (with_reducible first | exact HB.out | apply below_alloc | apply pw_below_drewN | apply below_drew1) | exact HB.out)))); have n1_ := Aside0.mk (below_step (by repeat (first | (with_reducible first | exact HB.out | apply below_alloc | apply pw_below_drewN | apply below_drew1) | exact HB.out)) hb); clear HB; have HO119 := n0_; have HB := n1_; clear n0_ n1_; (try clear hb); (try clear hb2); (try clear hk); (try clear hi); (try clear ho0)) | ((with_reducible refine gate_callee (f := 9) rfl ?_); refine goesL_ (some 10) rfl rfl Tryd.func9 (by kernel_rfl) rfl #[.string (⟨#[32, 65, 10]⟩ : ByteArray)] rfl (by (try simp only [List.map_toArray, List.map_cons, List.map_nil]); first | done | rfl | (simp only [List.length_drop, List.length_take]; rfl)) ?_; (with_reducible refine (fold_Unfold.calls k (⟨#[32, 65, 10]⟩ : ByteArray) t120 t121 _ (env_at HE.out (by repeat (first | (with_reducible first | exact HB.out | apply below_alloc | apply pw_below_drewN | apply below_drew1) | exact HB.out))) A2.out).mono ?_); rintro e w31 ⟨v122, rfl, ho0, hb⟩; refine ⟨_, rfl, ?_⟩; have n0_ := Aside0.mk (Kd.R_elder' (by (with_reducible repeat (first | apply Kd.R_alloc | apply Kd.R_drewN | apply Kd.R_drew)); exact HO119.out) (Kd.R_base ho0) hb); have n1_ := Aside0.mk (Kd.R_lower (Kd.R_new' ho0 (Kd.R_lt (by (with_reducible repeat (first | apply Kd.R_alloc | apply Kd.R_drewN | apply Kd.R_drew)); exact HO119.out))) (below_size (by repeat (first | (with_reducible first | exact HB.out | apply below_alloc | apply pw_below_drewN | apply below_drew1) | exact HB.out)))); have n2_ := Aside0.mk (below_step (by repeat (first | (with_reducible first | exact HB.out | apply below_alloc | apply pw_below_drewN | apply below_drew1) | exact HB.out)) hb); clear HO119; clear HB; have HO119 := n0_; have HO123 := n1_; have HB := n2_; clear n0_ n1_ n2_; (try clear hb); (try clear hb2); (try clear hk); (try clear hi); (try clear ho0)))
    go_ret
    exact ⟨by first | rfl | (simp [errW_none, errW_some] <;> rfl) | (simp [*, errW_none, errW_some] <;> rfl), by repeat (first | (with_reducible first | exact HB.out | apply below_alloc | apply pw_below_drewN | apply below_drew1) | exact HB.out)⟩

end Go.Proofs.YtpjidedgifjgeaaDoor.Pf
