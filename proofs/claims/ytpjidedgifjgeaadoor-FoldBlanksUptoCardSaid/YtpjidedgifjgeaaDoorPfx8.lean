-- Written by a program of this session (wip/extprint.py) over the kit's print. Not trusted: Lean checks it.
import Derived.Test.YtpjidedgifjgeaaDoorPfx0
import Derived.Test.YtpjidedgifjgeaaDoorPfx1
import Derived.Test.YtpjidedgifjgeaaDoorPfx5
namespace Go.Proofs.YtpjidedgifjgeaaDoor.Pf
open Go.RowKit Go.Proofs.YtpjidedgifjgeaaDoorW.PrintWords Go.Proofs.YtpjidedgifjgeaaDoorW.PrintLast Go.Proofs.YtpjidedgifjgeaaDoorW.PrintMore
attribute [local go_sem] max2_int min2_int max_two min_two max_three min_three max_four min_four   -- for this text's walks alone
set_option linter.unusedVariables false
set_option linter.unusedSimpArgs false

/-! ### calepinlaw02_FoldBlanks: function 7 -/
mutual
def calepinlaw02_FoldBlanks.j0 : Nat → ByteArray → List Int → Bool → Option (Bool)
  | 0, _, _, _ => none
  | k + 1, x0, x1, x21 => if x21 = true then (some true) else (calepinlaw02_FoldBlanks.l0 k x0 (⟨#[]⟩ : ByteArray) 0 x1 (x1.length : Int) 0)
def calepinlaw02_FoldBlanks.l0 : Nat → ByteArray → ByteArray → Int → List Int → Int → Int → Option (Bool)
  | 0, _, _, _, _, _, _ => none
  | k + 1, x0, x5, x6, x22, x23, x24 => if x24 < x23 then (if 0 ≤ x24 then (if x24 < (x22.length : Int) then (if x24 ≥ 20 then (if 0 ≤ x6 then (if x6 ≤ (x0.size : Int) then ((some (x0.extract (x6 : Int).toNat x0.size : ByteArray)).bind fun y209 => (if y209.size + 1 ≤ 9223372036854775807 then (if x5.size + (y209 ++ (⟨#[10]⟩ : ByteArray)).size ≤ 9223372036854775807 then ((fold_Unfold.f k (x5 ++ (y209 ++ (⟨#[10]⟩ : ByteArray)))).bind fun bt210 => (if bt210.2 = 0 then (if (bt210.1.length : Int) = 1 then (if 0 < (bt210.1.length : Int) then (some ((rdOf ByteArray.empty bt210.1 0).toList == x0.toList)) else (none)) else (some false)) else (some false))) else (none)) else (none))) else (none)) else (none)) else (if (wrap64 (x6 + (wrap64 (1 + (wrap64 (Int.tmod (IntKind.u64.wrap (rd x22 x24)) 7)))))) ≥ (x0.size : Int) then (if 0 ≤ x6 then (if x6 ≤ (x0.size : Int) then ((some (x0.extract (x6 : Int).toNat x0.size : ByteArray)).bind fun y215 => (if y215.size + 1 ≤ 9223372036854775807 then (if x5.size + (y215 ++ (⟨#[10]⟩ : ByteArray)).size ≤ 9223372036854775807 then ((fold_Unfold.f k (x5 ++ (y215 ++ (⟨#[10]⟩ : ByteArray)))).bind fun bt216 => (if bt216.2 = 0 then (if (bt216.1.length : Int) = 1 then (if 0 < (bt216.1.length : Int) then (some ((rdOf ByteArray.empty bt216.1 0).toList == x0.toList)) else (none)) else (some false)) else (some false))) else (none)) else (none))) else (none)) else (none)) else (if 0 ≤ x6 then (if x6 ≤ (wrap64 (x6 + (wrap64 (1 + (wrap64 (Int.tmod (IntKind.u64.wrap (rd x22 x24)) 7)))))) then (if (wrap64 (x6 + (wrap64 (1 + (wrap64 (Int.tmod (IntKind.u64.wrap (rd x22 x24)) 7)))))) ≤ (x0.size : Int) then ((some (x0.extract (x6 : Int).toNat ((wrap64 (x6 + (wrap64 (1 + (wrap64 (Int.tmod (IntKind.u64.wrap (rd x22 x24)) 7)))))) : Int).toNat : ByteArray)).bind fun y221 => ((some (([(⟨#[10, 32]⟩ : ByteArray), (⟨#[10, 9]⟩ : ByteArray), (⟨#[13, 10, 32]⟩ : ByteArray), (⟨#[13, 10, 9]⟩ : ByteArray)] : List ByteArray) : List ByteArray)).bind fun y222 => (if 0 ≤ (Int.tmod (IntKind.u64.wrap (Int.tdiv (IntKind.u64.wrap (rd x22 x24)) 7)) 4) then (if (Int.tmod (IntKind.u64.wrap (Int.tdiv (IntKind.u64.wrap (rd x22 x24)) 7)) 4) < (y222.length : Int) then (if y221.size + (rdOf ByteArray.empty y222 (Int.tmod (IntKind.u64.wrap (Int.tdiv (IntKind.u64.wrap (rd x22 x24)) 7)) 4)).size ≤ 9223372036854775807 then (if x5.size + (y221 ++ (rdOf ByteArray.empty y222 (Int.tmod (IntKind.u64.wrap (Int.tdiv (IntKind.u64.wrap (rd x22 x24)) 7)) 4))).size ≤ 9223372036854775807 then (calepinlaw02_FoldBlanks.l0 k x0 (x5 ++ (y221 ++ (rdOf ByteArray.empty y222 (Int.tmod (IntKind.u64.wrap (Int.tdiv (IntKind.u64.wrap (rd x22 x24)) 7)) 4)))) (wrap64 (x6 + (wrap64 (1 + (wrap64 (Int.tmod (IntKind.u64.wrap (rd x22 x24)) 7)))))) x22 x23 (wrap64 (x24 + 1))) else (none)) else (none)) else (none)) else (none)))) else (none)) else (none)) else (none)))) else (none)) else (none)) else (if 0 ≤ x6 then (if x6 ≤ (x0.size : Int) then ((some (x0.extract (x6 : Int).toNat x0.size : ByteArray)).bind fun y226 => (if y226.size + 1 ≤ 9223372036854775807 then (if x5.size + (y226 ++ (⟨#[10]⟩ : ByteArray)).size ≤ 9223372036854775807 then ((fold_Unfold.f k (x5 ++ (y226 ++ (⟨#[10]⟩ : ByteArray)))).bind fun bt227 => (if bt227.2 = 0 then (if (bt227.1.length : Int) = 1 then (if 0 < (bt227.1.length : Int) then (some ((rdOf ByteArray.empty bt227.1 0).toList == x0.toList)) else (none)) else (some false)) else (some false))) else (none)) else (none))) else (none)) else (none))
end
def calepinlaw02_FoldBlanks.f (k : Nat) (a0 : ByteArray) (l1 : List Int) : Option (Bool) := (calepinlaw02_first.f k).bind fun t206 => (if t206 = true then ((fold_Good.f a0).bind fun t207 => (if t207 = true then (calepinlaw02_FoldBlanks.j0 k a0 l1 (decide ((a0.size : Int) > 2000))) else (calepinlaw02_FoldBlanks.j0 k a0 l1 true))) else (some false))
theorem calepinlaw02_FoldBlanks.mono_l : ∀ k, (∀ y0 y1 y2, LeO (calepinlaw02_FoldBlanks.j0 k y0 y1 y2) (calepinlaw02_FoldBlanks.j0 (k + 1) y0 y1 y2)) ∧ (∀ y0 y1 y2 y3 y4 y5, LeO (calepinlaw02_FoldBlanks.l0 k y0 y1 y2 y3 y4 y5) (calepinlaw02_FoldBlanks.l0 (k + 1) y0 y1 y2 y3 y4 y5))
  | 0 => ⟨fun _ _ _ r h => by simp [calepinlaw02_FoldBlanks.j0] at h, fun _ _ _ _ _ _ r h => by simp [calepinlaw02_FoldBlanks.l0] at h⟩
  | k + 1 => by
    obtain ⟨ih0, ih1⟩ := calepinlaw02_FoldBlanks.mono_l k
    refine ⟨?_, ?_⟩
    · intro y0 y1 y2
      unfold calepinlaw02_FoldBlanks.j0
      repeat' first
      | (with_reducible exact ih0 _ _ _)
      | (with_reducible exact ih1 _ _ _ _ _ _)
      | (with_reducible exact calepinlaw02_first.mono _)
      | (with_reducible exact fold_Unfold.mono _ _)
      | (with_reducible exact LeO.refl _)
      | (with_reducible exact LeO.none _)
      | (with_reducible refine LeO.ite ?_ ?_)
      | (with_reducible refine LeO.bind ?_ (fun _ => ?_))
      | exact ih0 _ _ _
      | exact ih1 _ _ _ _ _ _
      | exact calepinlaw02_first.mono _
      | exact fold_Unfold.mono _ _
      | exact LeO.none _
      | refine LeO.ite ?_ ?_
      | refine LeO.bind ?_ (fun _ => ?_)
    · intro y0 y1 y2 y3 y4 y5
      unfold calepinlaw02_FoldBlanks.l0
      repeat' first
      | (with_reducible exact ih0 _ _ _)
      | (with_reducible exact ih1 _ _ _ _ _ _)
      | (with_reducible exact calepinlaw02_first.mono _)
      | (with_reducible exact fold_Unfold.mono _ _)
      | (with_reducible exact LeO.refl _)
      | (with_reducible exact LeO.none _)
      | (with_reducible refine LeO.ite ?_ ?_)
      | (with_reducible refine LeO.bind ?_ (fun _ => ?_))
      | exact ih0 _ _ _
      | exact ih1 _ _ _ _ _ _
      | exact calepinlaw02_first.mono _
      | exact fold_Unfold.mono _ _
      | exact LeO.none _
      | refine LeO.ite ?_ ?_
      | refine LeO.bind ?_ (fun _ => ?_)
theorem calepinlaw02_FoldBlanks.mono : ∀ a0 a1 k, LeO (calepinlaw02_FoldBlanks.f k a0 a1) (calepinlaw02_FoldBlanks.f (k + 1) a0 a1) := by
  intro a0 a1 k
  obtain ⟨ih0, ih1⟩ := calepinlaw02_FoldBlanks.mono_l k
  unfold calepinlaw02_FoldBlanks.f
  repeat' first
      | (with_reducible exact ih0 _ _ _)
      | (with_reducible exact ih1 _ _ _ _ _ _)
      | (with_reducible exact calepinlaw02_first.mono _)
      | (with_reducible exact fold_Unfold.mono _ _)
      | (with_reducible exact LeO.refl _)
      | (with_reducible exact LeO.none _)
      | (with_reducible refine LeO.ite ?_ ?_)
      | (with_reducible refine LeO.bind ?_ (fun _ => ?_))
      | exact ih0 _ _ _
      | exact ih1 _ _ _ _ _ _
      | exact calepinlaw02_first.mono _
      | exact fold_Unfold.mono _ _
      | exact LeO.none _
      | refine LeO.ite ?_ ?_
      | refine LeO.bind ?_ (fun _ => ?_)
def calepinlaw02_FoldBlanks.T11 : Bool × List (List Nat × List Nat) := (true, [([], []), ([], []), ([], []), ([], []), ([], []), ([3, 4], [3, 4]), ([1, 2, 5], [1, 2, 5]), ([], []), ([], []), ([8], [8]), ([9], [9]), ([10], [10]), ([7, 11], [7, 11]), ([12], [12]), ([6, 13], [6, 13]), ([0, 14], [0, 14]), ([15, 0, 1, 2, 3, 4, 5, 6, 7, 8, 9, 10, 11, 12, 13, 14, 15], [0, 15])])
def calepinlaw02_FoldBlanks.B11 : List Nat := [0, 0, 0, 0, 0, 24, 62, 0, 0, 256, 768, 1792, 3968, 8064, 16382, 32767, 65535]
theorem calepinlaw02_FoldBlanks.tab11 : rtab .any (opsOf Tryd.f7 11) = calepinlaw02_FoldBlanks.T11 := by kernel_rfl
theorem calepinlaw02_FoldBlanks.bits11 : waitsOk calepinlaw02_FoldBlanks.T11.2 calepinlaw02_FoldBlanks.B11 = true := by kernel_rfl
set_option maxHeartbeats 8000000 in
set_option maxRecDepth 100000 in
theorem calepinlaw02_FoldBlanks.calls (k : Nat) (a0 : ByteArray) (A1 : Option Addr) (c1 : Nat) (l1 : List Int) (r : Bool) (w : World) (hr1 : Kd.C (Kd.int .i64) w A1 l1.length l1) (hc1 : l1.length ≤ c1) (hE : Env w) (h : calepinlaw02_FoldBlanks.f k a0 l1 = some r) :
    Calls Tryd.prog 7 #[.string a0, .slice A1 l1.length c1] w fun e w' => e = .returned (.bool r) ∧ Below w.heap.size w w' := by
  have HE := Aside0.mk hE
  clear hE
  have HR1 := Aside0.mk hr1
  have HC1 := Aside0.mk hc1
  clear hr1 hc1
  have HB := Aside0.mk (Below.refl w.heap.size w)
  have H : ((calepinlaw02_first.f k).bind fun t206 => (if t206 = true then ((fold_Good.f a0).bind fun t207 => (if t207 = true then (calepinlaw02_FoldBlanks.j0 k a0 l1 (decide ((a0.size : Int) > 2000))) else (calepinlaw02_FoldBlanks.j0 k a0 l1 true))) else (some false))) = some r := h
  clear h
  replace H := Option.bind_eq_some_iff.mp H
  obtain ⟨t206, A30, H⟩ := H
  replace H : (if t206 = true then ((fold_Good.f a0).bind fun t207 => (if t207 = true then (calepinlaw02_FoldBlanks.j0 k a0 l1 (decide ((a0.size : Int) > 2000))) else (calepinlaw02_FoldBlanks.j0 k a0 l1 true))) else (some false)) = some r := H
  have A3 := Aside0.mk A30
  clear A30
  by_cases c4 : t206 = true
  · subst c4
    have H1 : ((fold_Good.f a0).bind fun t207 => (if t207 = true then (calepinlaw02_FoldBlanks.j0 k a0 l1 (decide ((a0.size : Int) > 2000))) else (calepinlaw02_FoldBlanks.j0 k a0 l1 true))) = some r := by rw [if_pos rfl] at H; exact H
    clear H
    have H := H1
    clear H1
    have HC5 := Aside0.mk H
    clear H
    go_enter Tryd.func7, Tryd.ntmps7
    go_upto_region 3 with (first | ((with_reducible refine gate_callee (f := 8) rfl ?_); refine goesL_ (some 12) rfl rfl Tryd.func8 (by kernel_rfl) rfl #[] rfl (by (try simp only [List.map_toArray, List.map_cons, List.map_nil]); first | done | rfl | (simp only [List.length_drop, List.length_take]; rfl)) ?_; (with_reducible refine (calepinlaw02_first.calls k  true _ (env_at HE.out (by repeat (first | (with_reducible first | exact HB.out | apply below_alloc | apply pw_below_drewN | apply below_drew1) | exact HB.out))) A3.out).mono ?_); rintro e w6 ⟨rfl, hb⟩; refine ⟨_, rfl, ?_⟩; have n0_ := Aside0.mk (below_step (by repeat (first | (with_reducible first | exact HB.out | apply below_alloc | apply pw_below_drewN | apply below_drew1) | exact HB.out)) hb); clear HB; have HB := n0_; clear n0_; (try clear hb); (try clear hb2); (try clear hk); (try clear hi)))
    (try simp only [Act.put, List.setIfInBounds_toArray, List.set_cons_zero, List.set_cons_succ])
    go_cut [21] (fun v21 wc => ∃ (kq : Nat) (x21_4 : Bool), v21 = .bool x21_4 ∧ Aside0 (calepinlaw02_FoldBlanks.j0 kq a0 l1 x21_4 = some r) ∧ Aside0 (kq ≤ k) ∧ Aside0 (Below w.heap.size w wc))
    case first =>
      have H := HC5.out
      clear HC5
      replace H := Option.bind_eq_some_iff.mp H
      obtain ⟨t207, A70, H⟩ := H
      replace H : (if t207 = true then (calepinlaw02_FoldBlanks.j0 k a0 l1 (decide ((a0.size : Int) > 2000))) else (calepinlaw02_FoldBlanks.j0 k a0 l1 true)) = some r := H
      have A7 := Aside0.mk A70
      clear A70
      by_cases c8 : t207 = true
      · subst c8
        have H1 : (calepinlaw02_FoldBlanks.j0 k a0 l1 (decide ((a0.size : Int) > 2000))) = some r := by rw [if_pos rfl] at H; exact H
        clear H
        have H := H1
        clear H1
        have H' := Aside0.mk H
        clear H
        go_wp2_with (first | ((with_reducible refine gate_callee (f := 15) rfl ?_); refine goesL_ (some 15) rfl rfl Tryd.func15 (by kernel_rfl) rfl #[.string a0] rfl (by (try simp only [List.map_toArray, List.map_cons, List.map_nil]); first | done | rfl | (simp only [List.length_drop, List.length_take]; rfl)) ?_; (with_reducible refine (fold_Good.calls a0 true _ (env_at HE.out (by repeat (first | (with_reducible first | exact HB.out | apply below_alloc | apply pw_below_drewN | apply below_drew1) | exact HB.out))) A7.out).mono ?_); rintro e w9 ⟨rfl, hb⟩; refine ⟨_, rfl, ?_⟩; have n0_ := Aside0.mk (below_step (by repeat (first | (with_reducible first | exact HB.out | apply below_alloc | apply pw_below_drewN | apply below_drew1) | exact HB.out)) hb); clear HB; have HB := n0_; clear n0_; (try clear hb); (try clear hb2); (try clear hk); (try clear hi)))
        go_meet
        case rel => exact ⟨_, (decide ((a0.size : Int) > 2000)), (by first | rfl | (simp; done) | (simp [*]; done)), H', ⟨by first | omega | exact Nat.le_refl _⟩, ⟨by repeat (first | (with_reducible first | exact HB.out | apply below_alloc | apply pw_below_drewN | apply below_drew1) | exact HB.out)⟩⟩
      · replace c8 := Bool.eq_false_iff.mpr c8
        subst c8
        have H1 : (calepinlaw02_FoldBlanks.j0 k a0 l1 true) = some r := by rw [if_neg (show ¬ (false = true) by decide)] at H; exact H
        clear H
        have H := H1
        clear H1
        have H' := Aside0.mk H
        clear H
        go_wp2_with (first | ((with_reducible refine gate_callee (f := 15) rfl ?_); refine goesL_ (some 15) rfl rfl Tryd.func15 (by kernel_rfl) rfl #[.string a0] rfl (by (try simp only [List.map_toArray, List.map_cons, List.map_nil]); first | done | rfl | (simp only [List.length_drop, List.length_take]; rfl)) ?_; (with_reducible refine (fold_Good.calls a0 false _ (env_at HE.out (by repeat (first | (with_reducible first | exact HB.out | apply below_alloc | apply pw_below_drewN | apply below_drew1) | exact HB.out))) A7.out).mono ?_); rintro e w10 ⟨rfl, hb⟩; refine ⟨_, rfl, ?_⟩; have n0_ := Aside0.mk (below_step (by repeat (first | (with_reducible first | exact HB.out | apply below_alloc | apply pw_below_drewN | apply below_drew1) | exact HB.out)) hb); clear HB; have HB := n0_; clear n0_; (try clear hb); (try clear hb2); (try clear hk); (try clear hi)))
        go_meet
        case rel => exact ⟨_, (true), (by first | rfl | (simp; done) | (simp [*]; done)), H', ⟨by first | omega | exact Nat.le_refl _⟩, ⟨by repeat (first | (with_reducible first | exact HB.out | apply below_alloc | apply pw_below_drewN | apply below_drew1) | exact HB.out)⟩⟩
    case rest =>
      clear HC5
      try clear c1
      try clear p2
      try clear c4
      try clear c7
      try clear c8
      obtain ⟨kq, x21_4, rfl, HA, HJ4, HB⟩ := hcut
      cases kq with
      | zero => exact absurd HA.out (by simp [calepinlaw02_FoldBlanks.j0])
      | succ kj4 =>
        have H := HA.out
        clear HA
        simp only [calepinlaw02_FoldBlanks.j0] at H
        by_cases c11 : x21_4 = true
        · subst c11
          have H1 : (some true) = some r := by rw [if_pos rfl] at H; exact H
          clear H
          have H := H1
          clear H1
          obtain rfl := Option.some.inj H
          go_wp2
          go_ret
          exact ⟨by first | rfl | (simp [errW_none, errW_some] <;> rfl) | (simp [*, errW_none, errW_some] <;> rfl), by repeat (first | (with_reducible first | exact HB.out | apply below_alloc | apply pw_below_drewN | apply below_drew1) | exact HB.out)⟩
        · replace c11 := Bool.eq_false_iff.mpr c11
          subst c11
          have H1 : (calepinlaw02_FoldBlanks.l0 kj4 a0 (⟨#[]⟩ : ByteArray) 0 l1 (l1.length : Int) 0) = some r := by rw [if_neg (show ¬ (false = true) by decide)] at H; exact H
          clear H
          have H := H1
          clear H1
          have H' := Aside0.mk H
          clear H
          go_wp2
          go_loopg [5, 6, 24] kj4 (fun kq v5 v6 v24 w' => ∃ (x5_2 : ByteArray) (x6_2 : Int) (x24_2 : Int), v5 = .string x5_2 ∧ v6 = .int .i64 x6_2 ∧ v24 = .int .i64 x24_2 ∧ Aside0 (calepinlaw02_FoldBlanks.l0 kq a0 x5_2 x6_2 l1 (l1.length : Int) x24_2 = some r) ∧ Aside0 (kq ≤ kj4) ∧ Aside0 (Below w.heap.size w w'))
          case atStart => exact ⟨((⟨#[]⟩ : ByteArray)), (0), (0), (by first | rfl | (simp; done) | (simp [*]; done)), (by first | rfl | (simp; done) | (simp [*]; done)), (by first | rfl | (simp; done) | (simp [*]; done)), H', ⟨Nat.le_refl _⟩, ⟨by repeat (first | (with_reducible first | exact HB.out | apply below_alloc | apply pw_below_drewN | apply below_drew1) | exact HB.out)⟩⟩
          case round =>
            clear H'
            try clear c1
            try clear p2
            try clear c4
            try clear c7
            try clear c8
            try clear c11
            try clear p2
            obtain ⟨x5_2, x6_2, x24_2, rfl, rfl, rfl, HA, HK2, HB⟩ := hrel
            cases gk with
            | zero => exact absurd HA.out (by simp [calepinlaw02_FoldBlanks.l0])
            | succ k2 =>
              have H := HA.out
              clear HA
              simp only [calepinlaw02_FoldBlanks.l0] at H
              by_cases c12 : x24_2 < (l1.length : Int)
              · rw [if_pos c12] at H
                have c12b0 : decide (x24_2 < (l1.length : Int)) = true := decide_eq_true c12
                clear c12
                by_cases c13 : 0 ≤ x24_2
                · rw [if_pos c13] at H
                  have c13b0 : decide (0 ≤ x24_2) = true := decide_eq_true c13
                  clear c13
                  by_cases c14 : x24_2 < (l1.length : Int)
                  · rw [if_pos c14] at H
                    have c14b0 : decide (x24_2 < (l1.length : Int)) = true := decide_eq_true c14
                    clear c14
                    by_cases c15 : x24_2 ≥ 20
                    · rw [if_pos c15] at H
                      have c15b0 : decide (20 ≤ x24_2) = true := decide_eq_true c15
                      clear c15
                      by_cases c16 : 0 ≤ x6_2
                      · rw [if_pos c16] at H
                        have c16b0 := eq_true c16
                        have c16b1 : decide (0 ≤ x6_2) = true := decide_eq_true c16
                        clear c16
                        by_cases c17 : x6_2 ≤ (a0.size : Int)
                        · rw [if_pos c17] at H
                          have c17b0 := eq_true c17
                          have c17b1 : decide (x6_2 ≤ (a0.size : Int)) = true := decide_eq_true c17
                          clear c17
                          obtain ⟨y209, hy209⟩ : ∃ y_ : ByteArray, y_ = (a0.extract (x6_2 : Int).toNat a0.size) := ⟨_, rfl⟩
                          replace H : (if y209.size + 1 ≤ 9223372036854775807 then (if x5_2.size + (y209 ++ (⟨#[10]⟩ : ByteArray)).size ≤ 9223372036854775807 then ((fold_Unfold.f k2 (x5_2 ++ (y209 ++ (⟨#[10]⟩ : ByteArray)))).bind fun bt210 => (if bt210.2 = 0 then (if (bt210.1.length : Int) = 1 then (if 0 < (bt210.1.length : Int) then (some ((rdOf ByteArray.empty bt210.1 0).toList == a0.toList)) else (none)) else (some false)) else (some false))) else (none)) else (none)) = some r := by first | (rw [hy209]; with_reducible exact H) | (have H2_ := (Option.bind_some _ _).symm.trans H; rw [hy209]; with_reducible exact H2_) | (have H2_ := (Option.bind_some _ _).symm.trans H; with_reducible exact H2_) | with_reducible exact H | (rw [hy209]; exact H) | exact H
                          have Ny209 := Aside0.mk hy209
                          clear hy209
                          have sy209 := Ny209.out.symm
                          by_cases c18 : y209.size + 1 ≤ 9223372036854775807
                          · rw [if_pos c18] at H
                            have c18b0 := eq_true c18
                            have c18b1 : decide (y209.size + 1 ≤ 9223372036854775807) = true := decide_eq_true c18
                            try have c18b2 : (9223372036854775807 < y209.size + 1) = False := eq_false (Nat.not_lt.2 c18)
                            try (have c18b3 := c18b2; simp only [ByteArray.size_append] at c18b3)
                            by_cases c19 : x5_2.size + (y209 ++ (⟨#[10]⟩ : ByteArray)).size ≤ 9223372036854775807
                            · rw [if_pos c19] at H
                              have c19b0 := eq_true c19
                              have c19b1 : decide (x5_2.size + (y209 ++ (⟨#[10]⟩ : ByteArray)).size ≤ 9223372036854775807) = true := decide_eq_true c19
                              try have c19b2 : (9223372036854775807 < x5_2.size + (y209 ++ (⟨#[10]⟩ : ByteArray)).size) = False := eq_false (Nat.not_lt.2 c19)
                              try (have c19b3 := c19b2; simp only [ByteArray.size_append] at c19b3)
                              replace H := Option.bind_eq_some_iff.mp H
                              obtain ⟨⟨t210, t211⟩, A200, H⟩ := H
                              replace H : (if t211 = 0 then (if (t210.length : Int) = 1 then (if 0 < (t210.length : Int) then (some ((rdOf ByteArray.empty t210 0).toList == a0.toList)) else (none)) else (some false)) else (some false)) = some r := H
                              have A20 := Aside0.mk A200
                              clear A200
                              by_cases c21 : t211 = 0
                              · rw [if_pos c21] at H
                                have c21b0 : (t211 == 0) = true := beq_iff_eq.mpr c21
                                have c21b1 : (t211 != 0) = false := bne_eq_false_iff_eq.mpr c21
                                clear c21
                                by_cases c22 : (t210.length : Int) = 1
                                · rw [if_pos c22] at H
                                  have c22b0 : ((t210.length : Int) == 1) = true := beq_iff_eq.mpr c22
                                  have c22b1 : ((t210.length : Int) != 1) = false := bne_eq_false_iff_eq.mpr c22
                                  clear c22
                                  by_cases c23 : 0 < (t210.length : Int)
                                  · rw [if_pos c23] at H
                                    have c23b0 : decide (0 < (t210.length : Int)) = true := decide_eq_true c23
                                    have c23b1 : decide (0 < t210.length) = true := decide_eq_true (by omega)
                                    clear c23
                                    obtain rfl := Option.some.inj H
                                    have p208 : 0 ≤ (x24_2 : Int) := of_decide_eq_true (by first | (with_reducible assumption) | assumption)
                                    have q208 : x24_2 < (l1.length : Int) := of_decide_eq_true (by first | (with_reducible assumption) | assumption)
                                    obtain ⟨ad208, e208, hx208_0⟩ := Kd.at_int HR1.out x24_2 p208 q208
                                    cases e208
                                    replace hx208_0 := (HB.out.cell (World.block_lt_of_cell? w _ hx208_0)).trans hx208_0
                                    replace p208 := eq_true p208
                                    replace q208 := eq_true q208
                                    go_wp2_with (first | ((with_reducible refine gate_callee (f := 9) rfl ?_); refine goesL_ (some 72) rfl rfl Tryd.func9 (by kernel_rfl) rfl #[.string (x5_2 ++ (y209 ++ (⟨#[10]⟩ : ByteArray)))] rfl (by (try simp only [List.map_toArray, List.map_cons, List.map_nil]); first | done | rfl | (simp only [List.length_drop, List.length_take]; rfl)) ?_; (with_reducible refine (fold_Unfold.calls k2 (x5_2 ++ (y209 ++ (⟨#[10]⟩ : ByteArray))) t210 t211 _ (env_at HE.out (by repeat (first | (with_reducible first | exact HB.out | apply below_alloc | apply pw_below_drewN | apply below_drew1) | exact HB.out))) A20.out).mono ?_); rintro e w24 ⟨v212, rfl, ho0, hb⟩; refine ⟨_, rfl, ?_⟩; have n0_ := Aside0.mk (Kd.R_lower ho0 (below_size (by repeat (first | (with_reducible first | exact HB.out | apply below_alloc | apply pw_below_drewN | apply below_drew1) | exact HB.out)))); have n1_ := Aside0.mk (below_step (by repeat (first | (with_reducible first | exact HB.out | apply below_alloc | apply pw_below_drewN | apply below_drew1) | exact HB.out)) hb); clear HB; have HO213 := n0_; have HB := n1_; clear n0_ n1_; (try clear hb); (try clear hb2); (try clear hk); (try clear hi); (try clear ho0); obtain ⟨Ao25, co25, eo25⟩ := Kd.R_slice HO213.out; subst eo25; have p214 : 0 ≤ (0 : Int) := (by omega); have q214 : 0 < (t210.length : Int) := of_decide_eq_true (by first | (with_reducible assumption) | assumption); obtain ⟨ad214, e214, hx214_0⟩ := Kd.at_string (Kd.R_reads' HO213.out).2.2 0 p214 q214; cases e214; have qi214 : (0 < t210.length) = True := eq_true (by omega); (try rw [show ((0 : Int)).toNat = 0 from rfl] at hx214_0); (try rw [Addr.add_zero'] at hx214_0); replace p214 := eq_true p214; replace q214 := eq_true q214))
                                    go_ret
                                    exact ⟨by first | rfl | (simp [errW_none, errW_some] <;> rfl) | (simp [*, errW_none, errW_some] <;> rfl), by repeat (first | (with_reducible first | exact HB.out | apply below_alloc | apply pw_below_drewN | apply below_drew1) | exact HB.out)⟩
                                  · rw [if_neg c23] at H
                                    exact absurd H (by simp)
                                · rw [if_neg c22] at H
                                  have c22b0 : ((t210.length : Int) == 1) = false := beq_eq_false_iff_ne.mpr c22
                                  have c22b1 : ((t210.length : Int) != 1) = true := bne_iff_ne.mpr c22
                                  obtain rfl := Option.some.inj H
                                  have p208 : 0 ≤ (x24_2 : Int) := of_decide_eq_true (by first | (with_reducible assumption) | assumption)
                                  have q208 : x24_2 < (l1.length : Int) := of_decide_eq_true (by first | (with_reducible assumption) | assumption)
                                  obtain ⟨ad208, e208, hx208_0⟩ := Kd.at_int HR1.out x24_2 p208 q208
                                  cases e208
                                  replace hx208_0 := (HB.out.cell (World.block_lt_of_cell? w _ hx208_0)).trans hx208_0
                                  replace p208 := eq_true p208
                                  replace q208 := eq_true q208
                                  go_wp2_with (first | ((with_reducible refine gate_callee (f := 9) rfl ?_); refine goesL_ (some 72) rfl rfl Tryd.func9 (by kernel_rfl) rfl #[.string (x5_2 ++ (y209 ++ (⟨#[10]⟩ : ByteArray)))] rfl (by (try simp only [List.map_toArray, List.map_cons, List.map_nil]); first | done | rfl | (simp only [List.length_drop, List.length_take]; rfl)) ?_; (with_reducible refine (fold_Unfold.calls k2 (x5_2 ++ (y209 ++ (⟨#[10]⟩ : ByteArray))) t210 t211 _ (env_at HE.out (by repeat (first | (with_reducible first | exact HB.out | apply below_alloc | apply pw_below_drewN | apply below_drew1) | exact HB.out))) A20.out).mono ?_); rintro e w26 ⟨v212, rfl, ho0, hb⟩; refine ⟨_, rfl, ?_⟩; have n0_ := Aside0.mk (Kd.R_lower ho0 (below_size (by repeat (first | (with_reducible first | exact HB.out | apply below_alloc | apply pw_below_drewN | apply below_drew1) | exact HB.out)))); have n1_ := Aside0.mk (below_step (by repeat (first | (with_reducible first | exact HB.out | apply below_alloc | apply pw_below_drewN | apply below_drew1) | exact HB.out)) hb); clear HB; have HO213 := n0_; have HB := n1_; clear n0_ n1_; (try clear hb); (try clear hb2); (try clear hk); (try clear hi); (try clear ho0); obtain ⟨Ao27, co27, eo27⟩ := Kd.R_slice HO213.out; subst eo27))
                                  go_ret
                                  exact ⟨by first | rfl | (simp [errW_none, errW_some] <;> rfl) | (simp [*, errW_none, errW_some] <;> rfl), by repeat (first | (with_reducible first | exact HB.out | apply below_alloc | apply pw_below_drewN | apply below_drew1) | exact HB.out)⟩
                              · rw [if_neg c21] at H
                                have c21b0 : (t211 == 0) = false := beq_eq_false_iff_ne.mpr c21
                                have c21b1 : (t211 != 0) = true := bne_iff_ne.mpr c21
                                obtain rfl := Option.some.inj H
                                have p208 : 0 ≤ (x24_2 : Int) := of_decide_eq_true (by first | (with_reducible assumption) | assumption)
                                have q208 : x24_2 < (l1.length : Int) := of_decide_eq_true (by first | (with_reducible assumption) | assumption)
                                obtain ⟨ad208, e208, hx208_0⟩ := Kd.at_int HR1.out x24_2 p208 q208
                                cases e208
                                replace hx208_0 := (HB.out.cell (World.block_lt_of_cell? w _ hx208_0)).trans hx208_0
                                replace p208 := eq_true p208
                                replace q208 := eq_true q208
                                go_wp2_with (first | ((with_reducible refine gate_callee (f := 9) rfl ?_); refine goesL_ (some 72) rfl rfl Tryd.func9 (by kernel_rfl) rfl #[.string (x5_2 ++ (y209 ++ (⟨#[10]⟩ : ByteArray)))] rfl (by (try simp only [List.map_toArray, List.map_cons, List.map_nil]); first | done | rfl | (simp only [List.length_drop, List.length_take]; rfl)) ?_; (with_reducible refine (fold_Unfold.calls k2 (x5_2 ++ (y209 ++ (⟨#[10]⟩ : ByteArray))) t210 t211 _ (env_at HE.out (by repeat (first | (with_reducible first | exact HB.out | apply below_alloc | apply pw_below_drewN | apply below_drew1) | exact HB.out))) A20.out).mono ?_); rintro e w28 ⟨v212, rfl, ho0, hb⟩; refine ⟨_, rfl, ?_⟩; have n0_ := Aside0.mk (Kd.R_lower ho0 (below_size (by repeat (first | (with_reducible first | exact HB.out | apply below_alloc | apply pw_below_drewN | apply below_drew1) | exact HB.out)))); have n1_ := Aside0.mk (below_step (by repeat (first | (with_reducible first | exact HB.out | apply below_alloc | apply pw_below_drewN | apply below_drew1) | exact HB.out)) hb); clear HB; have HO213 := n0_; have HB := n1_; clear n0_ n1_; (try clear hb); (try clear hb2); (try clear hk); (try clear hi); (try clear ho0)))
                                go_ret
                                exact ⟨by first | rfl | (simp [errW_none, errW_some] <;> rfl) | (simp [*, errW_none, errW_some] <;> rfl), by repeat (first | (with_reducible first | exact HB.out | apply below_alloc | apply pw_below_drewN | apply below_drew1) | exact HB.out)⟩
                            · rw [if_neg c19] at H
                              exact absurd H (by simp)
                          · rw [if_neg c18] at H
                            exact absurd H (by simp)
                        · rw [if_neg c17] at H
                          exact absurd H (by simp)
                      · rw [if_neg c16] at H
                        exact absurd H (by simp)
                    · rw [if_neg c15] at H
                      have c15b0 : decide (20 ≤ x24_2) = false := decide_eq_false c15
                      clear c15
                      by_cases c29 : (wrap64 (x6_2 + (wrap64 (1 + (wrap64 (Int.tmod (IntKind.u64.wrap (rd l1 x24_2)) 7)))))) ≥ (a0.size : Int)
                      · rw [if_pos c29] at H
                        have c29b0 : decide ((a0.size : Int) ≤ (wrap64 (x6_2 + (wrap64 (1 + (wrap64 (Int.tmod (IntKind.u64.wrap (rd l1 x24_2)) 7))))))) = true := decide_eq_true c29
                        clear c29
                        by_cases c30 : 0 ≤ x6_2
                        · rw [if_pos c30] at H
                          have c30b0 := eq_true c30
                          have c30b1 : decide (0 ≤ x6_2) = true := decide_eq_true c30
                          clear c30
                          by_cases c31 : x6_2 ≤ (a0.size : Int)
                          · rw [if_pos c31] at H
                            have c31b0 := eq_true c31
                            have c31b1 : decide (x6_2 ≤ (a0.size : Int)) = true := decide_eq_true c31
                            clear c31
                            obtain ⟨y215, hy215⟩ : ∃ y_ : ByteArray, y_ = (a0.extract (x6_2 : Int).toNat a0.size) := ⟨_, rfl⟩
                            replace H : (if y215.size + 1 ≤ 9223372036854775807 then (if x5_2.size + (y215 ++ (⟨#[10]⟩ : ByteArray)).size ≤ 9223372036854775807 then ((fold_Unfold.f k2 (x5_2 ++ (y215 ++ (⟨#[10]⟩ : ByteArray)))).bind fun bt216 => (if bt216.2 = 0 then (if (bt216.1.length : Int) = 1 then (if 0 < (bt216.1.length : Int) then (some ((rdOf ByteArray.empty bt216.1 0).toList == a0.toList)) else (none)) else (some false)) else (some false))) else (none)) else (none)) = some r := by first | (rw [hy215]; with_reducible exact H) | (have H2_ := (Option.bind_some _ _).symm.trans H; rw [hy215]; with_reducible exact H2_) | (have H2_ := (Option.bind_some _ _).symm.trans H; with_reducible exact H2_) | with_reducible exact H | (rw [hy215]; exact H) | exact H
                            have Ny215 := Aside0.mk hy215
                            clear hy215
                            have sy215 := Ny215.out.symm
                            by_cases c32 : y215.size + 1 ≤ 9223372036854775807
                            · rw [if_pos c32] at H
                              have c32b0 := eq_true c32
                              have c32b1 : decide (y215.size + 1 ≤ 9223372036854775807) = true := decide_eq_true c32
                              try have c32b2 : (9223372036854775807 < y215.size + 1) = False := eq_false (Nat.not_lt.2 c32)
                              try (have c32b3 := c32b2; simp only [ByteArray.size_append] at c32b3)
                              by_cases c33 : x5_2.size + (y215 ++ (⟨#[10]⟩ : ByteArray)).size ≤ 9223372036854775807
                              · rw [if_pos c33] at H
                                have c33b0 := eq_true c33
                                have c33b1 : decide (x5_2.size + (y215 ++ (⟨#[10]⟩ : ByteArray)).size ≤ 9223372036854775807) = true := decide_eq_true c33
                                try have c33b2 : (9223372036854775807 < x5_2.size + (y215 ++ (⟨#[10]⟩ : ByteArray)).size) = False := eq_false (Nat.not_lt.2 c33)
                                try (have c33b3 := c33b2; simp only [ByteArray.size_append] at c33b3)
                                replace H := Option.bind_eq_some_iff.mp H
                                obtain ⟨⟨t216, t217⟩, A340, H⟩ := H
                                replace H : (if t217 = 0 then (if (t216.length : Int) = 1 then (if 0 < (t216.length : Int) then (some ((rdOf ByteArray.empty t216 0).toList == a0.toList)) else (none)) else (some false)) else (some false)) = some r := H
                                have A34 := Aside0.mk A340
                                clear A340
                                by_cases c35 : t217 = 0
                                · rw [if_pos c35] at H
                                  have c35b0 : (t217 == 0) = true := beq_iff_eq.mpr c35
                                  have c35b1 : (t217 != 0) = false := bne_eq_false_iff_eq.mpr c35
                                  clear c35
                                  by_cases c36 : (t216.length : Int) = 1
                                  · rw [if_pos c36] at H
                                    have c36b0 : ((t216.length : Int) == 1) = true := beq_iff_eq.mpr c36
                                    have c36b1 : ((t216.length : Int) != 1) = false := bne_eq_false_iff_eq.mpr c36
                                    clear c36
                                    by_cases c37 : 0 < (t216.length : Int)
                                    · rw [if_pos c37] at H
                                      have c37b0 : decide (0 < (t216.length : Int)) = true := decide_eq_true c37
                                      have c37b1 : decide (0 < t216.length) = true := decide_eq_true (by omega)
                                      clear c37
                                      obtain rfl := Option.some.inj H
                                      have p208 : 0 ≤ (x24_2 : Int) := of_decide_eq_true (by first | (with_reducible assumption) | assumption)
                                      have q208 : x24_2 < (l1.length : Int) := of_decide_eq_true (by first | (with_reducible assumption) | assumption)
                                      obtain ⟨ad208, e208, hx208_0⟩ := Kd.at_int HR1.out x24_2 p208 q208
                                      cases e208
                                      replace hx208_0 := (HB.out.cell (World.block_lt_of_cell? w _ hx208_0)).trans hx208_0
                                      replace p208 := eq_true p208
                                      replace q208 := eq_true q208
                                      go_wp2_with (first | ((with_reducible refine gate_callee (f := 9) rfl ?_); refine goesL_ (some 72) rfl rfl Tryd.func9 (by kernel_rfl) rfl #[.string (x5_2 ++ (y215 ++ (⟨#[10]⟩ : ByteArray)))] rfl (by (try simp only [List.map_toArray, List.map_cons, List.map_nil]); first | done | rfl | (simp only [List.length_drop, List.length_take]; rfl)) ?_; (with_reducible refine (fold_Unfold.calls k2 (x5_2 ++ (y215 ++ (⟨#[10]⟩ : ByteArray))) t216 t217 _ (env_at HE.out (by repeat (first | (with_reducible first | exact HB.out | apply below_alloc | apply pw_below_drewN | apply below_drew1) | exact HB.out))) A34.out).mono ?_); rintro e w38 ⟨v218, rfl, ho0, hb⟩; refine ⟨_, rfl, ?_⟩; have n0_ := Aside0.mk (Kd.R_lower ho0 (below_size (by repeat (first | (with_reducible first | exact HB.out | apply below_alloc | apply pw_below_drewN | apply below_drew1) | exact HB.out)))); have n1_ := Aside0.mk (below_step (by repeat (first | (with_reducible first | exact HB.out | apply below_alloc | apply pw_below_drewN | apply below_drew1) | exact HB.out)) hb); clear HB; have HO219 := n0_; have HB := n1_; clear n0_ n1_; (try clear hb); (try clear hb2); (try clear hk); (try clear hi); (try clear ho0); obtain ⟨Ao39, co39, eo39⟩ := Kd.R_slice HO219.out; subst eo39; have p220 : 0 ≤ (0 : Int) := (by omega); have q220 : 0 < (t216.length : Int) := of_decide_eq_true (by first | (with_reducible assumption) | assumption); obtain ⟨ad220, e220, hx220_0⟩ := Kd.at_string (Kd.R_reads' HO219.out).2.2 0 p220 q220; cases e220; have qi220 : (0 < t216.length) = True := eq_true (by omega); (try rw [show ((0 : Int)).toNat = 0 from rfl] at hx220_0); (try rw [Addr.add_zero'] at hx220_0); replace p220 := eq_true p220; replace q220 := eq_true q220))
                                      go_ret
                                      exact ⟨by first | rfl | (simp [errW_none, errW_some] <;> rfl) | (simp [*, errW_none, errW_some] <;> rfl), by repeat (first | (with_reducible first | exact HB.out | apply below_alloc | apply pw_below_drewN | apply below_drew1) | exact HB.out)⟩
                                    · rw [if_neg c37] at H
                                      exact absurd H (by simp)
                                  · rw [if_neg c36] at H
                                    have c36b0 : ((t216.length : Int) == 1) = false := beq_eq_false_iff_ne.mpr c36
                                    have c36b1 : ((t216.length : Int) != 1) = true := bne_iff_ne.mpr c36
                                    obtain rfl := Option.some.inj H
                                    have p208 : 0 ≤ (x24_2 : Int) := of_decide_eq_true (by first | (with_reducible assumption) | assumption)
                                    have q208 : x24_2 < (l1.length : Int) := of_decide_eq_true (by first | (with_reducible assumption) | assumption)
                                    obtain ⟨ad208, e208, hx208_0⟩ := Kd.at_int HR1.out x24_2 p208 q208
                                    cases e208
                                    replace hx208_0 := (HB.out.cell (World.block_lt_of_cell? w _ hx208_0)).trans hx208_0
                                    replace p208 := eq_true p208
                                    replace q208 := eq_true q208
                                    go_wp2_with (first | ((with_reducible refine gate_callee (f := 9) rfl ?_); refine goesL_ (some 72) rfl rfl Tryd.func9 (by kernel_rfl) rfl #[.string (x5_2 ++ (y215 ++ (⟨#[10]⟩ : ByteArray)))] rfl (by (try simp only [List.map_toArray, List.map_cons, List.map_nil]); first | done | rfl | (simp only [List.length_drop, List.length_take]; rfl)) ?_; (with_reducible refine (fold_Unfold.calls k2 (x5_2 ++ (y215 ++ (⟨#[10]⟩ : ByteArray))) t216 t217 _ (env_at HE.out (by repeat (first | (with_reducible first | exact HB.out | apply below_alloc | apply pw_below_drewN | apply below_drew1) | exact HB.out))) A34.out).mono ?_); rintro e w40 ⟨v218, rfl, ho0, hb⟩; refine ⟨_, rfl, ?_⟩; have n0_ := Aside0.mk (Kd.R_lower ho0 (below_size (by repeat (first | (with_reducible first | exact HB.out | apply below_alloc | apply pw_below_drewN | apply below_drew1) | exact HB.out)))); have n1_ := Aside0.mk (below_step (by repeat (first | (with_reducible first | exact HB.out | apply below_alloc | apply pw_below_drewN | apply below_drew1) | exact HB.out)) hb); clear HB; have HO219 := n0_; have HB := n1_; clear n0_ n1_; (try clear hb); (try clear hb2); (try clear hk); (try clear hi); (try clear ho0); obtain ⟨Ao41, co41, eo41⟩ := Kd.R_slice HO219.out; subst eo41))
                                    go_ret
                                    exact ⟨by first | rfl | (simp [errW_none, errW_some] <;> rfl) | (simp [*, errW_none, errW_some] <;> rfl), by repeat (first | (with_reducible first | exact HB.out | apply below_alloc | apply pw_below_drewN | apply below_drew1) | exact HB.out)⟩
                                · rw [if_neg c35] at H
                                  have c35b0 : (t217 == 0) = false := beq_eq_false_iff_ne.mpr c35
                                  have c35b1 : (t217 != 0) = true := bne_iff_ne.mpr c35
                                  obtain rfl := Option.some.inj H
                                  have p208 : 0 ≤ (x24_2 : Int) := of_decide_eq_true (by first | (with_reducible assumption) | assumption)
                                  have q208 : x24_2 < (l1.length : Int) := of_decide_eq_true (by first | (with_reducible assumption) | assumption)
                                  obtain ⟨ad208, e208, hx208_0⟩ := Kd.at_int HR1.out x24_2 p208 q208
                                  cases e208
                                  replace hx208_0 := (HB.out.cell (World.block_lt_of_cell? w _ hx208_0)).trans hx208_0
                                  replace p208 := eq_true p208
                                  replace q208 := eq_true q208
                                  go_wp2_with (first | ((with_reducible refine gate_callee (f := 9) rfl ?_); refine goesL_ (some 72) rfl rfl Tryd.func9 (by kernel_rfl) rfl #[.string (x5_2 ++ (y215 ++ (⟨#[10]⟩ : ByteArray)))] rfl (by (try simp only [List.map_toArray, List.map_cons, List.map_nil]); first | done | rfl | (simp only [List.length_drop, List.length_take]; rfl)) ?_; (with_reducible refine (fold_Unfold.calls k2 (x5_2 ++ (y215 ++ (⟨#[10]⟩ : ByteArray))) t216 t217 _ (env_at HE.out (by repeat (first | (with_reducible first | exact HB.out | apply below_alloc | apply pw_below_drewN | apply below_drew1) | exact HB.out))) A34.out).mono ?_); rintro e w42 ⟨v218, rfl, ho0, hb⟩; refine ⟨_, rfl, ?_⟩; have n0_ := Aside0.mk (Kd.R_lower ho0 (below_size (by repeat (first | (with_reducible first | exact HB.out | apply below_alloc | apply pw_below_drewN | apply below_drew1) | exact HB.out)))); have n1_ := Aside0.mk (below_step (by repeat (first | (with_reducible first | exact HB.out | apply below_alloc | apply pw_below_drewN | apply below_drew1) | exact HB.out)) hb); clear HB; have HO219 := n0_; have HB := n1_; clear n0_ n1_; (try clear hb); (try clear hb2); (try clear hk); (try clear hi); (try clear ho0)))
                                  go_ret
                                  exact ⟨by first | rfl | (simp [errW_none, errW_some] <;> rfl) | (simp [*, errW_none, errW_some] <;> rfl), by repeat (first | (with_reducible first | exact HB.out | apply below_alloc | apply pw_below_drewN | apply below_drew1) | exact HB.out)⟩
                              · rw [if_neg c33] at H
                                exact absurd H (by simp)
                            · rw [if_neg c32] at H
                              exact absurd H (by simp)
                          · rw [if_neg c31] at H
                            exact absurd H (by simp)
                        · rw [if_neg c30] at H
                          exact absurd H (by simp)
                      · rw [if_neg c29] at H
                        have c29b0 : decide ((a0.size : Int) ≤ (wrap64 (x6_2 + (wrap64 (1 + (wrap64 (Int.tmod (IntKind.u64.wrap (rd l1 x24_2)) 7))))))) = false := decide_eq_false c29
                        clear c29
                        by_cases c43 : 0 ≤ x6_2
                        · rw [if_pos c43] at H
                          have c43b0 := eq_true c43
                          have c43b1 : decide (0 ≤ x6_2) = true := decide_eq_true c43
                          clear c43
                          by_cases c44 : x6_2 ≤ (wrap64 (x6_2 + (wrap64 (1 + (wrap64 (Int.tmod (IntKind.u64.wrap (rd l1 x24_2)) 7))))))
                          · rw [if_pos c44] at H
                            have c44b0 := eq_true c44
                            have c44b1 : decide (x6_2 ≤ (wrap64 (x6_2 + (wrap64 (1 + (wrap64 (Int.tmod (IntKind.u64.wrap (rd l1 x24_2)) 7))))))) = true := decide_eq_true c44
                            by_cases c45 : (wrap64 (x6_2 + (wrap64 (1 + (wrap64 (Int.tmod (IntKind.u64.wrap (rd l1 x24_2)) 7)))))) ≤ (a0.size : Int)
                            · rw [if_pos c45] at H
                              have c45b0 := eq_true c45
                              have c45b1 : decide ((wrap64 (x6_2 + (wrap64 (1 + (wrap64 (Int.tmod (IntKind.u64.wrap (rd l1 x24_2)) 7)))))) ≤ (a0.size : Int)) = true := decide_eq_true c45
                              obtain ⟨y221, hy221⟩ : ∃ y_ : ByteArray, y_ = (a0.extract (x6_2 : Int).toNat ((wrap64 (x6_2 + (wrap64 (1 + (wrap64 (Int.tmod (IntKind.u64.wrap (rd l1 x24_2)) 7)))))) : Int).toNat) := ⟨_, rfl⟩
                              replace H : ((some (([(⟨#[10, 32]⟩ : ByteArray), (⟨#[10, 9]⟩ : ByteArray), (⟨#[13, 10, 32]⟩ : ByteArray), (⟨#[13, 10, 9]⟩ : ByteArray)] : List ByteArray) : List ByteArray)).bind fun y222 => (if 0 ≤ (Int.tmod (IntKind.u64.wrap (Int.tdiv (IntKind.u64.wrap (rd l1 x24_2)) 7)) 4) then (if (Int.tmod (IntKind.u64.wrap (Int.tdiv (IntKind.u64.wrap (rd l1 x24_2)) 7)) 4) < (y222.length : Int) then (if y221.size + (rdOf ByteArray.empty y222 (Int.tmod (IntKind.u64.wrap (Int.tdiv (IntKind.u64.wrap (rd l1 x24_2)) 7)) 4)).size ≤ 9223372036854775807 then (if x5_2.size + (y221 ++ (rdOf ByteArray.empty y222 (Int.tmod (IntKind.u64.wrap (Int.tdiv (IntKind.u64.wrap (rd l1 x24_2)) 7)) 4))).size ≤ 9223372036854775807 then (calepinlaw02_FoldBlanks.l0 k2 a0 (x5_2 ++ (y221 ++ (rdOf ByteArray.empty y222 (Int.tmod (IntKind.u64.wrap (Int.tdiv (IntKind.u64.wrap (rd l1 x24_2)) 7)) 4)))) (wrap64 (x6_2 + (wrap64 (1 + (wrap64 (Int.tmod (IntKind.u64.wrap (rd l1 x24_2)) 7)))))) l1 (l1.length : Int) (wrap64 (x24_2 + 1))) else (none)) else (none)) else (none)) else (none))) = some r := by first | (rw [hy221]; with_reducible exact H) | (have H2_ := (Option.bind_some _ _).symm.trans H; rw [hy221]; with_reducible exact H2_) | (have H2_ := (Option.bind_some _ _).symm.trans H; with_reducible exact H2_) | with_reducible exact H | (rw [hy221]; exact H) | exact H
                              have Ny221 := Aside0.mk hy221
                              clear hy221
                              have sy221 := Ny221.out.symm
                              obtain ⟨y222, hy222⟩ : ∃ y_ : List ByteArray, y_ = (([(⟨#[10, 32]⟩ : ByteArray), (⟨#[10, 9]⟩ : ByteArray), (⟨#[13, 10, 32]⟩ : ByteArray), (⟨#[13, 10, 9]⟩ : ByteArray)] : List ByteArray)) := ⟨_, rfl⟩
                              replace H : (if 0 ≤ (Int.tmod (IntKind.u64.wrap (Int.tdiv (IntKind.u64.wrap (rd l1 x24_2)) 7)) 4) then (if (Int.tmod (IntKind.u64.wrap (Int.tdiv (IntKind.u64.wrap (rd l1 x24_2)) 7)) 4) < (y222.length : Int) then (if y221.size + (rdOf ByteArray.empty y222 (Int.tmod (IntKind.u64.wrap (Int.tdiv (IntKind.u64.wrap (rd l1 x24_2)) 7)) 4)).size ≤ 9223372036854775807 then (if x5_2.size + (y221 ++ (rdOf ByteArray.empty y222 (Int.tmod (IntKind.u64.wrap (Int.tdiv (IntKind.u64.wrap (rd l1 x24_2)) 7)) 4))).size ≤ 9223372036854775807 then (calepinlaw02_FoldBlanks.l0 k2 a0 (x5_2 ++ (y221 ++ (rdOf ByteArray.empty y222 (Int.tmod (IntKind.u64.wrap (Int.tdiv (IntKind.u64.wrap (rd l1 x24_2)) 7)) 4)))) (wrap64 (x6_2 + (wrap64 (1 + (wrap64 (Int.tmod (IntKind.u64.wrap (rd l1 x24_2)) 7)))))) l1 (l1.length : Int) (wrap64 (x24_2 + 1))) else (none)) else (none)) else (none)) else (none)) = some r := by first | (rw [hy222]; with_reducible exact H) | (have H2_ := (Option.bind_some _ _).symm.trans H; rw [hy222]; with_reducible exact H2_) | (have H2_ := (Option.bind_some _ _).symm.trans H; with_reducible exact H2_) | with_reducible exact H | (rw [hy222]; exact H) | exact H
                              have Ny222 := Aside0.mk hy222
                              clear hy222
                              obtain ⟨ji46, hji46⟩ : ∃ j_ : Int, (Int.tmod (IntKind.u64.wrap (Int.tdiv (IntKind.u64.wrap (rd l1 x24_2)) 7)) 4) = j_ := ⟨_, rfl⟩
                              replace H : (if 0 ≤ (ji46) then (if (ji46) < (y222.length : Int) then (if y221.size + (rdOf ByteArray.empty y222 (ji46)).size ≤ 9223372036854775807 then (if x5_2.size + (y221 ++ (rdOf ByteArray.empty y222 (ji46))).size ≤ 9223372036854775807 then (calepinlaw02_FoldBlanks.l0 k2 a0 (x5_2 ++ (y221 ++ (rdOf ByteArray.empty y222 (ji46)))) (wrap64 (x6_2 + (wrap64 (1 + (wrap64 (Int.tmod (IntKind.u64.wrap (rd l1 x24_2)) 7)))))) l1 (l1.length : Int) (wrap64 (x24_2 + 1))) else (none)) else (none)) else (none)) else (none)) = some r := by first | (rw [hji46] at H; exact H) | (simp only [hji46] at H ⊢; exact H)
                              by_cases c47 : 0 ≤ (ji46)
                              · rw [if_pos c47] at H
                                have c47b0 : decide (0 ≤ (ji46)) = true := decide_eq_true c47
                                clear c47
                                by_cases c48 : (ji46) < (y222.length : Int)
                                · rw [if_pos c48] at H
                                  have c48b0 : decide ((ji46) < (y222.length : Int)) = true := decide_eq_true c48
                                  clear c48
                                  by_cases c49 : y221.size + (rdOf ByteArray.empty y222 (ji46)).size ≤ 9223372036854775807
                                  · rw [if_pos c49] at H
                                    have c49b0 := eq_true c49
                                    have c49b1 : decide (y221.size + (rdOf ByteArray.empty y222 (ji46)).size ≤ 9223372036854775807) = true := decide_eq_true c49
                                    try have c49b2 : (9223372036854775807 < y221.size + (rdOf ByteArray.empty y222 (ji46)).size) = False := eq_false (Nat.not_lt.2 c49)
                                    try (have c49b3 := c49b2; simp only [ByteArray.size_append] at c49b3)
                                    by_cases c50 : x5_2.size + (y221 ++ (rdOf ByteArray.empty y222 (ji46))).size ≤ 9223372036854775807
                                    · rw [if_pos c50] at H
                                      have c50b0 := eq_true c50
                                      have c50b1 : decide (x5_2.size + (y221 ++ (rdOf ByteArray.empty y222 (ji46))).size ≤ 9223372036854775807) = true := decide_eq_true c50
                                      try have c50b2 : (9223372036854775807 < x5_2.size + (y221 ++ (rdOf ByteArray.empty y222 (ji46))).size) = False := eq_false (Nat.not_lt.2 c50)
                                      try (have c50b3 := c50b2; simp only [ByteArray.size_append] at c50b3)
                                      have H' := Aside0.mk H
                                      clear H
                                      have p208 : 0 ≤ (x24_2 : Int) := of_decide_eq_true (by first | (with_reducible assumption) | assumption)
                                      have q208 : x24_2 < (l1.length : Int) := of_decide_eq_true (by first | (with_reducible assumption) | assumption)
                                      obtain ⟨ad208, e208, hx208_0⟩ := Kd.at_int HR1.out x24_2 p208 q208
                                      cases e208
                                      replace hx208_0 := (HB.out.cell (World.block_lt_of_cell? w _ hx208_0)).trans hx208_0
                                      replace p208 := eq_true p208
                                      replace q208 := eq_true q208
                                      try go_wp2
                                      have pi225 : (0 ≤ ((ji46) : Int)) = True := eq_true (of_decide_eq_true (by first | (with_reducible assumption) | assumption))
                                      have qi225 : ((ji46) < (y222.length : Int)) = True := eq_true (of_decide_eq_true (by first | (with_reducible assumption) | assumption))
                                      have n0_ := Aside0.mk (below_drew1 HB.out)
                                      clear HB
                                      have HB := n0_
                                      clear n0_
                                      refine start_ (n := 17) (S := fun w' => True) (ds := []) #[false, false, false, false, false, false, false, false, false, false, false, false, false, false, false, false, false] (by kernel_rfl) rfl rfl trivial (fun hHeld => ?_); refine with_tabW calepinlaw02_FoldBlanks.tab11 calepinlaw02_FoldBlanks.bits11 (fun HT_ HW_ => ?_)
                                      generalize wr.drew = w51 at HB hHeld ⊢
                                      refine pure_ (i := 0) (N := some 44) (v := ?_) (a' := ?_) #[true, false, false, false, false, false, false, false, false, false, false, false, false, false, false, false, false] rfl rfl (any_of HT_.out (by kernel_rfl)) (fun _ _ _ h => h) (Or.inl ⟨by rfl, ?_⟩) ?_ ?_
                                      rotate_left
                                      · intro w'
                                        go_simp
                                        with_reducible rfl
                                      rotate_left
                                      · simp only [Act.put, List.setIfInBounds_toArray, List.set_cons_zero, List.set_cons_succ, i64_w, i32_w]
                                        rfl
                                      refine pure_ (i := 1) (N := some 45) (v := ?_) (a' := ?_) #[true, true, false, false, false, false, false, false, false, false, false, false, false, false, false, false, false] rfl rfl (any_of HT_.out (by kernel_rfl)) (fun _ _ _ h => h) (Or.inl ⟨by rfl, ?_⟩) ?_ ?_
                                      rotate_left
                                      · intro w'
                                        go_simp
                                        with_reducible rfl
                                      rotate_left
                                      · simp only [Act.put, List.setIfInBounds_toArray, List.set_cons_zero, List.set_cons_succ, i64_w, i32_w]
                                        rfl
                                      refine pure_ (i := 2) (N := some 46) (v := ?_) (a' := ?_) #[true, true, true, false, false, false, false, false, false, false, false, false, false, false, false, false, false] rfl rfl (any_of HT_.out (by kernel_rfl)) (fun _ _ _ h => h) (Or.inl ⟨by rfl, ?_⟩) ?_ ?_
                                      rotate_left
                                      · intro w'
                                        go_simp
                                        with_reducible rfl
                                      rotate_left
                                      · simp only [Act.put, List.setIfInBounds_toArray, List.set_cons_zero, List.set_cons_succ, i64_w, i32_w]
                                        rfl
                                      refine pure_ (i := 3) (N := some 47) (v := ?_) (a' := ?_) #[true, true, true, true, false, false, false, false, false, false, false, false, false, false, false, false, false] rfl rfl (any_of HT_.out (by kernel_rfl)) (fun _ _ _ h => h) (Or.inl ⟨by rfl, ?_⟩) ?_ ?_
                                      rotate_left
                                      · intro w'
                                        go_simp
                                        with_reducible rfl
                                      rotate_left
                                      · simp only [Act.put, List.setIfInBounds_toArray, List.set_cons_zero, List.set_cons_succ, i64_w, i32_w]
                                        rfl
                                      refine pure_ (i := 4) (N := some 48) (v := ?_) (a' := ?_) #[true, true, true, true, true, false, false, false, false, false, false, false, false, false, false, false, false] rfl rfl (any_of HT_.out (by kernel_rfl)) (fun _ _ _ h => h) (Or.inl ⟨by rfl, ?_⟩) ?_ ?_
                                      rotate_left
                                      · intro w'
                                        go_simp
                                        with_reducible rfl
                                      rotate_left
                                      · simp only [Act.put, List.setIfInBounds_toArray, List.set_cons_zero, List.set_cons_succ, i64_w, i32_w]
                                        rfl
                                      refine pure_ (i := 5) (N := some 49) (v := ?_) (a' := ?_) #[true, true, true, true, true, true, false, false, false, false, false, false, false, false, false, false, false] rfl rfl (any_of HT_.out (by kernel_rfl)) (fun _ _ _ h => h) (Or.inl ⟨by rfl, ?_⟩) ?_ ?_
                                      rotate_left
                                      · intro w'
                                        go_simp
                                        with_reducible rfl
                                      rotate_left
                                      · simp only [Act.put, List.setIfInBounds_toArray, List.set_cons_zero, List.set_cons_succ, i64_w, i32_w]
                                        rfl
                                      refine pure_ (i := 6) (N := some 50) (v := ?_) (a' := ?_) #[true, true, true, true, true, true, true, false, false, false, false, false, false, false, false, false, false] rfl rfl (any_of HT_.out (by kernel_rfl)) (fun _ _ _ h => h) (Or.inl ⟨by rfl, ?_⟩) ?_ ?_
                                      rotate_left
                                      · intro w'
                                        go_simp
                                        with_reducible rfl
                                      rotate_left
                                      · simp only [Act.put, List.setIfInBounds_toArray, List.set_cons_zero, List.set_cons_succ, i64_w, i32_w]
                                        rfl
                                      refine pure_ (i := 8) (N := some 52) (v := ?_) (a' := ?_) #[true, true, true, true, true, true, true, false, true, false, false, false, false, false, false, false, false] rfl rfl (any_of HT_.out (by kernel_rfl)) (fun _ _ _ h => h) (Or.inl ⟨by rfl, ?_⟩) ?_ ?_
                                      rotate_left
                                      · intro w'
                                        go_simp
                                        with_reducible rfl
                                      rotate_left
                                      · simp only [Act.put, List.setIfInBounds_toArray, List.set_cons_zero, List.set_cons_succ, i64_w, i32_w]
                                        rfl
                                      refine pure_ (i := 9) (N := some 53) (v := ?_) (a' := ?_) #[true, true, true, true, true, true, true, false, true, true, false, false, false, false, false, false, false] rfl rfl (any_of HT_.out (by kernel_rfl)) (fun _ _ _ h => h) (Or.inl ⟨by rfl, ?_⟩) ?_ ?_
                                      rotate_left
                                      · intro w'
                                        go_simp
                                        with_reducible rfl
                                      rotate_left
                                      · simp only [Act.put, List.setIfInBounds_toArray, List.set_cons_zero, List.set_cons_succ, i64_w, i32_w]
                                        rfl
                                      refine pure_ (i := 10) (N := some 54) (v := ?_) (a' := ?_) #[true, true, true, true, true, true, true, false, true, true, true, false, false, false, false, false, false] rfl rfl (any_of HT_.out (by kernel_rfl)) (fun _ _ _ h => h) (Or.inl ⟨by rfl, ?_⟩) ?_ ?_
                                      rotate_left
                                      · intro w'
                                        go_simp
                                        with_reducible rfl
                                      rotate_left
                                      · simp only [Act.put, List.setIfInBounds_toArray, List.set_cons_zero, List.set_cons_succ, i64_w, i32_w]
                                        rfl
                                      refine pure_ (i := 11) (N := some 55) (v := ?_) (a' := ?_) #[true, true, true, true, true, true, true, false, true, true, true, true, false, false, false, false, false] rfl rfl (any_of HT_.out (by kernel_rfl)) (fun _ _ _ h => h) (Or.inl ⟨by rfl, ?_⟩) ?_ ?_
                                      rotate_left
                                      · intro w'
                                        go_simp
                                        with_reducible rfl
                                      rotate_left
                                      · simp only [Act.put, List.setIfInBounds_toArray, List.set_cons_zero, List.set_cons_succ, i64_w, i32_w]
                                        rfl
                                      refine one_ (i := 7) (N := some 51) #[true, true, true, true, true, true, true, true, true, true, true, true, false, false, false, false, false] rfl rfl (one_of HT_.out (by kernel_rfl)) (by decide) (fun K hK => ?_)
                                      refine Kd.R_lit_step Kd.string _ 9 ?hg (N := 51) ?hd (xs := ([(⟨#[10, 32]⟩ : ByteArray), (⟨#[10, 9]⟩ : ByteArray), (⟨#[13, 10, 32]⟩ : ByteArray), (⟨#[13, 10, 9]⟩ : ByteArray)] : List ByteArray)) (inner := [.string (⟨#[10, 32]⟩ : ByteArray), .string (⟨#[10, 9]⟩ : ByteArray), .string (⟨#[13, 10, 32]⟩ : ByteArray), .string (⟨#[13, 10, 9]⟩ : ByteArray)]) (ok := fun _ => True) (okp := fun _ => True) ?hr ?hp (fun _ hk => hk) trivial (Below.refl _ _) (Nat.le_refl _) (by simp) ?_; (case hd => rfl); (case hg => rfl); (case hr => first | (go_simp; done) | (go_simp; rfl)); (case hp => exact (Reps.one (show Kd.M Kd.string _ _ _ (⟨#[10, 32]⟩ : ByteArray) [.string (⟨#[10, 32]⟩ : ByteArray)] from rfl) (Reps.one (show Kd.M Kd.string _ _ _ (⟨#[10, 9]⟩ : ByteArray) [.string (⟨#[10, 9]⟩ : ByteArray)] from rfl) (Reps.one (show Kd.M Kd.string _ _ _ (⟨#[13, 10, 32]⟩ : ByteArray) [.string (⟨#[13, 10, 32]⟩ : ByteArray)] from rfl) (Reps.one (show Kd.M Kd.string _ _ _ (⟨#[13, 10, 9]⟩ : ByteArray) [.string (⟨#[13, 10, 9]⟩ : ByteArray)] from rfl) (Reps.none _ _))))))
                                      intro v223 w52 ho53 hb hg_ hnew_
                                      clear hg_ hnew_
                                      (first | rw [← Ny222.out] at ho53 | (simp only [Int.reduceToNat] at ho53; rw [← Ny222.out] at ho53))
                                      have n0_ := Aside0.mk (Kd.R_lower ho53 (below_size (by repeat (first | (with_reducible first | exact HB.out | apply below_alloc | apply pw_below_drewN | apply below_drew1) | exact HB.out))))
                                      have n1_ := Aside0.mk (below_step (by repeat (first | (with_reducible first | exact HB.out | apply below_alloc | apply pw_below_drewN | apply below_drew1) | exact HB.out)) hb)
                                      clear HB
                                      have HO224 := n0_
                                      have HB := n1_
                                      clear n0_ n1_
                                      clear hb ho53
                                      obtain ⟨Ao54, co54, eo54⟩ := Kd.R_slice HO224.out
                                      subst eo54
                                      obtain ⟨ado54, fo54, _⟩ := Kd.at_string (Kd.R_reads' HO224.out).2.2 0 (by decide) (by rw [Ny222.out]; simp)
                                      cases fo54
                                      refine hK.out _ _ trivial (fun hHeld => ?_)
                                      clear hK K
                                      refine norm_ (a' := ?_) ?_ ?_
                                      rotate_left
                                      · show Act.put _ (some 51) _ = _
                                        simp only [Act.put, List.setIfInBounds_toArray, List.set_cons_zero, List.set_cons_succ, i64_w, i32_w]
                                        rfl
                                      refine pure_ (i := 12) (N := some 56) (v := ?_) (a' := ?_) #[true, true, true, true, true, true, true, true, true, true, true, true, true, false, false, false, false] rfl rfl (any_of HT_.out (by kernel_rfl)) (fun _ _ _ h => h) (Or.inl ⟨by rfl, ?_⟩) ?_ ?_
                                      rotate_left
                                      · intro w'
                                        go_simp
                                        with_reducible rfl
                                      rotate_left
                                      · simp only [Act.put, List.setIfInBounds_toArray, List.set_cons_zero, List.set_cons_succ, i64_w, i32_w]
                                        rfl
                                      refine one_ (i := 13) (N := some 57) #[true, true, true, true, true, true, true, true, true, true, true, true, true, true, false, false, false] rfl rfl (one_of HT_.out (by kernel_rfl)) (by decide) (fun K hK => ?_)
                                      (have p225 : 0 ≤ ((ji46) : Int) := of_decide_eq_true (by first | (with_reducible assumption) | assumption); have q225 : (ji46) < (y222.length : Int) := of_decide_eq_true (by first | (with_reducible assumption) | assumption); obtain ⟨ad225, e225, hx225_0⟩ := Kd.at_string (Kd.R_reads' HO224.out).2.2 (ji46) p225 q225; obtain rfl : ado54 = ad225 := (by injection e225))
                                      refine value_ (w1 := ?_) (v := ?_) (by rfl) rfl ?_ ?_
                                      rotate_left 2
                                      · go_simp
                                        constructor
                                        · rfl
                                        · rfl
                                      clear hx225_0
                                      refine hK.out _ _ trivial (fun hHeld => ?_)
                                      clear hK K
                                      refine norm_ (a' := ?_) ?_ ?_
                                      rotate_left
                                      · show Act.put _ (some 57) _ = _
                                        simp only [Act.put, List.setIfInBounds_toArray, List.set_cons_zero, List.set_cons_succ, i64_w, i32_w]
                                        rfl
                                      refine pure_ (i := 14) (N := some 58) (v := ?_) (a' := ?_) #[true, true, true, true, true, true, true, true, true, true, true, true, true, true, true, false, false] rfl rfl (any_of HT_.out (by kernel_rfl)) (fun _ _ _ h => h) (Or.inl ⟨by rfl, ?_⟩) ?_ ?_
                                      rotate_left
                                      · intro w'
                                        go_simp
                                        with_reducible rfl
                                      rotate_left
                                      · simp only [Act.put, List.setIfInBounds_toArray, List.set_cons_zero, List.set_cons_succ, i64_w, i32_w]
                                        rfl
                                      refine pure_ (i := 15) (N := some 59) (v := ?_) (a' := ?_) #[true, true, true, true, true, true, true, true, true, true, true, true, true, true, true, true, false] rfl rfl (any_of HT_.out (by kernel_rfl)) (fun _ _ _ h => h) (Or.inl ⟨by rfl, ?_⟩) ?_ ?_
                                      rotate_left
                                      · intro w'
                                        go_simp
                                        with_reducible rfl
                                      rotate_left
                                      · simp only [Act.put, List.setIfInBounds_toArray, List.set_cons_zero, List.set_cons_succ, i64_w, i32_w]
                                        rfl
                                      refine pure_ (i := 16) (N := some 5) (v := ?_) (a' := ?_) #[true, true, true, true, true, true, true, true, true, true, true, true, true, true, true, true, true] rfl rfl (any_of HT_.out (by kernel_rfl)) (fun _ _ _ h => h) (Or.inl ⟨by rfl, ?_⟩) ?_ ?_
                                      rotate_left
                                      · intro w'
                                        go_simp
                                        with_reducible rfl
                                      rotate_left
                                      · simp only [Act.put, List.setIfInBounds_toArray, List.set_cons_zero, List.set_cons_succ, i64_w, i32_w]
                                        rfl
                                      refine done_ (done_of HT_.out (by kernel_rfl)) ?_
                                      try go_wp2
                                      go_roundg k2
                                      case measure => have := HJ4.out; have := HK2.out; omega
                                      case rel => exact ⟨(x5_2 ++ (y221 ++ (rdOf ByteArray.empty y222 (ji46)))), (wrap64 (x6_2 + (wrap64 (1 + (wrap64 (Int.tmod (IntKind.u64.wrap (rd l1 x24_2)) 7)))))), (wrap64 (x24_2 + 1)), (by first | rfl | (simp; done) | (simp only [← hji46] <;> (first | rfl | simp)) | (simp [*]; done)), (by first | rfl | (simp; done) | (simp [*]; done)), (by first | rfl | (simp; done) | (simp [*]; done)), H', ⟨by have := HJ4.out; have := HK2.out; omega⟩, ⟨by repeat (first | (with_reducible first | exact HB.out | apply below_alloc | apply pw_below_drewN | apply below_drew1) | exact HB.out)⟩⟩
                                    · rw [if_neg c50] at H
                                      exact absurd H (by simp)
                                  · rw [if_neg c49] at H
                                    exact absurd H (by simp)
                                · rw [if_neg c48] at H
                                  exact absurd H (by simp)
                              · rw [if_neg c47] at H
                                exact absurd H (by simp)
                            · rw [if_neg c45] at H
                              exact absurd H (by simp)
                          · rw [if_neg c44] at H
                            exact absurd H (by simp)
                        · rw [if_neg c43] at H
                          exact absurd H (by simp)
                  · rw [if_neg c14] at H
                    exact absurd H (by simp)
                · rw [if_neg c13] at H
                  exact absurd H (by simp)
              · rw [if_neg c12] at H
                have c12b0 : decide (x24_2 < (l1.length : Int)) = false := decide_eq_false c12
                clear c12
                by_cases c55 : 0 ≤ x6_2
                · rw [if_pos c55] at H
                  have c55b0 := eq_true c55
                  have c55b1 : decide (0 ≤ x6_2) = true := decide_eq_true c55
                  clear c55
                  by_cases c56 : x6_2 ≤ (a0.size : Int)
                  · rw [if_pos c56] at H
                    have c56b0 := eq_true c56
                    have c56b1 : decide (x6_2 ≤ (a0.size : Int)) = true := decide_eq_true c56
                    clear c56
                    obtain ⟨y226, hy226⟩ : ∃ y_ : ByteArray, y_ = (a0.extract (x6_2 : Int).toNat a0.size) := ⟨_, rfl⟩
                    replace H : (if y226.size + 1 ≤ 9223372036854775807 then (if x5_2.size + (y226 ++ (⟨#[10]⟩ : ByteArray)).size ≤ 9223372036854775807 then ((fold_Unfold.f k2 (x5_2 ++ (y226 ++ (⟨#[10]⟩ : ByteArray)))).bind fun bt227 => (if bt227.2 = 0 then (if (bt227.1.length : Int) = 1 then (if 0 < (bt227.1.length : Int) then (some ((rdOf ByteArray.empty bt227.1 0).toList == a0.toList)) else (none)) else (some false)) else (some false))) else (none)) else (none)) = some r := by first | (rw [hy226]; with_reducible exact H) | (have H2_ := (Option.bind_some _ _).symm.trans H; rw [hy226]; with_reducible exact H2_) | (have H2_ := (Option.bind_some _ _).symm.trans H; with_reducible exact H2_) | with_reducible exact H | (rw [hy226]; exact H) | exact H
                    have Ny226 := Aside0.mk hy226
                    clear hy226
                    have sy226 := Ny226.out.symm
                    by_cases c57 : y226.size + 1 ≤ 9223372036854775807
                    · rw [if_pos c57] at H
                      have c57b0 := eq_true c57
                      have c57b1 : decide (y226.size + 1 ≤ 9223372036854775807) = true := decide_eq_true c57
                      try have c57b2 : (9223372036854775807 < y226.size + 1) = False := eq_false (Nat.not_lt.2 c57)
                      try (have c57b3 := c57b2; simp only [ByteArray.size_append] at c57b3)
                      by_cases c58 : x5_2.size + (y226 ++ (⟨#[10]⟩ : ByteArray)).size ≤ 9223372036854775807
                      · rw [if_pos c58] at H
                        have c58b0 := eq_true c58
                        have c58b1 : decide (x5_2.size + (y226 ++ (⟨#[10]⟩ : ByteArray)).size ≤ 9223372036854775807) = true := decide_eq_true c58
                        try have c58b2 : (9223372036854775807 < x5_2.size + (y226 ++ (⟨#[10]⟩ : ByteArray)).size) = False := eq_false (Nat.not_lt.2 c58)
                        try (have c58b3 := c58b2; simp only [ByteArray.size_append] at c58b3)
                        replace H := Option.bind_eq_some_iff.mp H
                        obtain ⟨⟨t227, t228⟩, A590, H⟩ := H
                        replace H : (if t228 = 0 then (if (t227.length : Int) = 1 then (if 0 < (t227.length : Int) then (some ((rdOf ByteArray.empty t227 0).toList == a0.toList)) else (none)) else (some false)) else (some false)) = some r := H
                        have A59 := Aside0.mk A590
                        clear A590
                        by_cases c60 : t228 = 0
                        · rw [if_pos c60] at H
                          have c60b0 : (t228 == 0) = true := beq_iff_eq.mpr c60
                          have c60b1 : (t228 != 0) = false := bne_eq_false_iff_eq.mpr c60
                          clear c60
                          by_cases c61 : (t227.length : Int) = 1
                          · rw [if_pos c61] at H
                            have c61b0 : ((t227.length : Int) == 1) = true := beq_iff_eq.mpr c61
                            have c61b1 : ((t227.length : Int) != 1) = false := bne_eq_false_iff_eq.mpr c61
                            clear c61
                            by_cases c62 : 0 < (t227.length : Int)
                            · rw [if_pos c62] at H
                              have c62b0 : decide (0 < (t227.length : Int)) = true := decide_eq_true c62
                              have c62b1 : decide (0 < t227.length) = true := decide_eq_true (by omega)
                              clear c62
                              obtain rfl := Option.some.inj H
                              go_wp2_with (first | ((with_reducible refine gate_callee (f := 9) rfl ?_); refine goesL_ (some 72) rfl rfl Tryd.func9 (by kernel_rfl) rfl #[.string (x5_2 ++ (y226 ++ (⟨#[10]⟩ : ByteArray)))] rfl (by (try simp only [List.map_toArray, List.map_cons, List.map_nil]); first | done | rfl | (simp only [List.length_drop, List.length_take]; rfl)) ?_; (with_reducible refine (fold_Unfold.calls k2 (x5_2 ++ (y226 ++ (⟨#[10]⟩ : ByteArray))) t227 t228 _ (env_at HE.out (by repeat (first | (with_reducible first | exact HB.out | apply below_alloc | apply pw_below_drewN | apply below_drew1) | exact HB.out))) A59.out).mono ?_); rintro e w63 ⟨v229, rfl, ho0, hb⟩; refine ⟨_, rfl, ?_⟩; have n0_ := Aside0.mk (Kd.R_lower ho0 (below_size (by repeat (first | (with_reducible first | exact HB.out | apply below_alloc | apply pw_below_drewN | apply below_drew1) | exact HB.out)))); have n1_ := Aside0.mk (below_step (by repeat (first | (with_reducible first | exact HB.out | apply below_alloc | apply pw_below_drewN | apply below_drew1) | exact HB.out)) hb); clear HB; have HO230 := n0_; have HB := n1_; clear n0_ n1_; (try clear hb); (try clear hb2); (try clear hk); (try clear hi); (try clear ho0); obtain ⟨Ao64, co64, eo64⟩ := Kd.R_slice HO230.out; subst eo64; have p231 : 0 ≤ (0 : Int) := (by omega); have q231 : 0 < (t227.length : Int) := of_decide_eq_true (by first | (with_reducible assumption) | assumption); obtain ⟨ad231, e231, hx231_0⟩ := Kd.at_string (Kd.R_reads' HO230.out).2.2 0 p231 q231; cases e231; have qi231 : (0 < t227.length) = True := eq_true (by omega); (try rw [show ((0 : Int)).toNat = 0 from rfl] at hx231_0); (try rw [Addr.add_zero'] at hx231_0); replace p231 := eq_true p231; replace q231 := eq_true q231))
                              go_ret
                              exact ⟨by first | rfl | (simp [errW_none, errW_some] <;> rfl) | (simp [*, errW_none, errW_some] <;> rfl), by repeat (first | (with_reducible first | exact HB.out | apply below_alloc | apply pw_below_drewN | apply below_drew1) | exact HB.out)⟩
                            · rw [if_neg c62] at H
                              exact absurd H (by simp)
                          · rw [if_neg c61] at H
                            have c61b0 : ((t227.length : Int) == 1) = false := beq_eq_false_iff_ne.mpr c61
                            have c61b1 : ((t227.length : Int) != 1) = true := bne_iff_ne.mpr c61
                            obtain rfl := Option.some.inj H
                            go_wp2_with (first | ((with_reducible refine gate_callee (f := 9) rfl ?_); refine goesL_ (some 72) rfl rfl Tryd.func9 (by kernel_rfl) rfl #[.string (x5_2 ++ (y226 ++ (⟨#[10]⟩ : ByteArray)))] rfl (by (try simp only [List.map_toArray, List.map_cons, List.map_nil]); first | done | rfl | (simp only [List.length_drop, List.length_take]; rfl)) ?_; (with_reducible refine (fold_Unfold.calls k2 (x5_2 ++ (y226 ++ (⟨#[10]⟩ : ByteArray))) t227 t228 _ (env_at HE.out (by repeat (first | (with_reducible first | exact HB.out | apply below_alloc | apply pw_below_drewN | apply below_drew1) | exact HB.out))) A59.out).mono ?_); rintro e w65 ⟨v229, rfl, ho0, hb⟩; refine ⟨_, rfl, ?_⟩; have n0_ := Aside0.mk (Kd.R_lower ho0 (below_size (by repeat (first | (with_reducible first | exact HB.out | apply below_alloc | apply pw_below_drewN | apply below_drew1) | exact HB.out)))); have n1_ := Aside0.mk (below_step (by repeat (first | (with_reducible first | exact HB.out | apply below_alloc | apply pw_below_drewN | apply below_drew1) | exact HB.out)) hb); clear HB; have HO230 := n0_; have HB := n1_; clear n0_ n1_; (try clear hb); (try clear hb2); (try clear hk); (try clear hi); (try clear ho0); obtain ⟨Ao66, co66, eo66⟩ := Kd.R_slice HO230.out; subst eo66))
                            go_ret
                            exact ⟨by first | rfl | (simp [errW_none, errW_some] <;> rfl) | (simp [*, errW_none, errW_some] <;> rfl), by repeat (first | (with_reducible first | exact HB.out | apply below_alloc | apply pw_below_drewN | apply below_drew1) | exact HB.out)⟩
                        · rw [if_neg c60] at H
                          have c60b0 : (t228 == 0) = false := beq_eq_false_iff_ne.mpr c60
                          have c60b1 : (t228 != 0) = true := bne_iff_ne.mpr c60
                          obtain rfl := Option.some.inj H
                          go_wp2_with (first | ((with_reducible refine gate_callee (f := 9) rfl ?_); refine goesL_ (some 72) rfl rfl Tryd.func9 (by kernel_rfl) rfl #[.string (x5_2 ++ (y226 ++ (⟨#[10]⟩ : ByteArray)))] rfl (by (try simp only [List.map_toArray, List.map_cons, List.map_nil]); first | done | rfl | (simp only [List.length_drop, List.length_take]; rfl)) ?_; (with_reducible refine (fold_Unfold.calls k2 (x5_2 ++ (y226 ++ (⟨#[10]⟩ : ByteArray))) t227 t228 _ (env_at HE.out (by repeat (first | (with_reducible first | exact HB.out | apply below_alloc | apply pw_below_drewN | apply below_drew1) | exact HB.out))) A59.out).mono ?_); rintro e w67 ⟨v229, rfl, ho0, hb⟩; refine ⟨_, rfl, ?_⟩; have n0_ := Aside0.mk (Kd.R_lower ho0 (below_size (by repeat (first | (with_reducible first | exact HB.out | apply below_alloc | apply pw_below_drewN | apply below_drew1) | exact HB.out)))); have n1_ := Aside0.mk (below_step (by repeat (first | (with_reducible first | exact HB.out | apply below_alloc | apply pw_below_drewN | apply below_drew1) | exact HB.out)) hb); clear HB; have HO230 := n0_; have HB := n1_; clear n0_ n1_; (try clear hb); (try clear hb2); (try clear hk); (try clear hi); (try clear ho0)))
                          go_ret
                          exact ⟨by first | rfl | (simp [errW_none, errW_some] <;> rfl) | (simp [*, errW_none, errW_some] <;> rfl), by repeat (first | (with_reducible first | exact HB.out | apply below_alloc | apply pw_below_drewN | apply below_drew1) | exact HB.out)⟩
                      · rw [if_neg c58] at H
                        exact absurd H (by simp)
                    · rw [if_neg c57] at H
                      exact absurd H (by simp)
                  · rw [if_neg c56] at H
                    exact absurd H (by simp)
                · rw [if_neg c55] at H
                  exact absurd H (by simp)
  · replace c4 := Bool.eq_false_iff.mpr c4
    subst c4
    have H1 : (some false) = some r := by rw [if_neg (show ¬ (false = true) by decide)] at H; exact H
    clear H
    have H := H1
    clear H1
    obtain rfl := Option.some.inj H
    go_enter Tryd.func7, Tryd.ntmps7
    go_wp2_with (first | ((with_reducible refine gate_callee (f := 8) rfl ?_); refine goesL_ (some 12) rfl rfl Tryd.func8 (by kernel_rfl) rfl #[] rfl (by (try simp only [List.map_toArray, List.map_cons, List.map_nil]); first | done | rfl | (simp only [List.length_drop, List.length_take]; rfl)) ?_; (with_reducible refine (calepinlaw02_first.calls k  false _ (env_at HE.out (by repeat (first | (with_reducible first | exact HB.out | apply below_alloc | apply pw_below_drewN | apply below_drew1) | exact HB.out))) A3.out).mono ?_); rintro e w68 ⟨rfl, hb⟩; refine ⟨_, rfl, ?_⟩; have n0_ := Aside0.mk (below_step (by repeat (first | (with_reducible first | exact HB.out | apply below_alloc | apply pw_below_drewN | apply below_drew1) | exact HB.out)) hb); clear HB; have HB := n0_; clear n0_; (try clear hb); (try clear hb2); (try clear hk); (try clear hi)))
    go_ret
    exact ⟨by first | rfl | (simp [errW_none, errW_some] <;> rfl) | (simp [*, errW_none, errW_some] <;> rfl), by repeat (first | (with_reducible first | exact HB.out | apply below_alloc | apply pw_below_drewN | apply below_drew1) | exact HB.out)⟩

end Go.Proofs.YtpjidedgifjgeaaDoor.Pf
