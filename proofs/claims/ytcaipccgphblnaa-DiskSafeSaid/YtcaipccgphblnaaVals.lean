/- disk: slices.Contains(slices.Collect(maps.Values(m)), f): is f among the files that the map has? -/
import Derived.RangeFuncBox
import Derived.RangeFuncLeaves
import Derived.Sort.MapsRangeIn
import Derived.Sort.KeysCollected
import Derived.Maps.AppendAt
import Derived.Shelf.Abstract
import Derived.OwnWalkIn
import Derived.TacticsInMore
import Derived.LoopNIn
import Derived.LoopIn
import Derived.LaidEqlPtr
import Derived.Test.YtcaipccgphblnaaWrite
namespace Go.Proofs.Ytcaipccgphblnaa.Dk
open Go.RowKit Go.WideMaps Go.Maps Go.Sort Go.Proofs.YtcaipccgphblnaaW.PrintWords
set_option linter.unusedSimpArgs false
attribute [local go_sem] Oper.semAt_some
/-- A pointer to a file's block. -/
abbrev encP (f : Nat) : Value := .pointer (some ⟨f, 0, none⟩)
/-- The block that a map has at a name. -/
def blkAt (D : DataW Unit) (n : Bs) : Nat := match D.atKey (.string n) .nil with | .lit (.int _ z) => z.toNat | _ => 0
/-- All elements of the map are files. -/
def Full (D : DataW Unit) : Prop := ∀ k y, D.atKey k .nil = y → (∀ z, D.atKey k z = y) → ∃ f : Nat, y = .lit (.int .i64 (f : Nat))
theorem full_dirD (blk : Nat → Nat) (l : Lk) : Full (dirD blk l) := by
  intro k y hy hz
  have hne : y ≠ .nil := fun e => by
    have := hz (.lit (.bool true))
    have h2 := has_true_of_atKey hz
    simp only [dirD, has_eq] at h2
    obtain ⟨p, hp, hpk⟩ := List.any_eq_true.1 h2
    have hs : ((l.map fun p => ((Lit.string p.1, DataW.lit (.int .i64 (blk p.2 : Nat))) : Lit × DataW Unit)).find? (fun p => p.1.sameKey k)).isSome = true := List.find?_isSome.2 ⟨p, hp, hpk⟩
    obtain ⟨x, hx⟩ := Option.isSome_iff_exists.1 hs
    have hm := List.mem_of_find?_eq_some hx
    obtain ⟨q, hq, rfl⟩ := List.mem_map.1 hm
    simp only [dirD, DataW.atKey, hx] at hy
    rw [e] at hy; cases hy
  have h2 := has_true_of_atKey hz
  simp only [dirD, has_eq] at h2
  obtain ⟨p, hp, hpk⟩ := List.any_eq_true.1 h2
  have hs : ((l.map fun p => ((Lit.string p.1, DataW.lit (.int .i64 (blk p.2 : Nat))) : Lit × DataW Unit)).find? (fun p => p.1.sameKey k)).isSome = true := List.find?_isSome.2 ⟨p, hp, hpk⟩
  obtain ⟨x, hx⟩ := Option.isSome_iff_exists.1 hs
  have hm := List.mem_of_find?_eq_some hx
  obtain ⟨q, hq, rfl⟩ := List.mem_map.1 hm
  simp only [dirD, DataW.atKey, hx] at hy
  exact ⟨_, hy.symm⟩
theorem values_calls (mb : Option Nat) (w : World) :
    Calls Try.prog 26 #[.map mb] w fun e w' => e = .returned (.func (.func 48) #[] #[.pointer (some ⟨w.heap.size, 0, none⟩)]) ∧ w' = w.alloc (.cells #[.map mb] 57) := by
  go_enter Try.func26, Try.ntmps26
  go_wp2_with (fail)
  go_ret
  exact ⟨rfl, rfl⟩
/-- What has come of a map's elements: keys ks, each once; xs: their files. -/
def Come (D : DataW Unit) (left : Lit → Bool) (xs : List Nat) : Prop := ∃ ks, Collected D left ks ∧ xs = ks.map (blkAt D)
set_option maxRecDepth 100000 in
set_option maxHeartbeats 1000000 in
theorem vals1_in (n : Nat) (hn : 1 ≤ n) (l Bm b nn : Nat) (D0 : DataW Unit) (J Jx : List Nat → World → Prop)
    (hY : ∀ pre x W, J pre W → pre.length < Maps.size D0 → YieldAt Fence.wide (n - 1) Try.prog l #[encP x] W fun e W' =>
      (e = .returned (.bool true) ∧ J (pre ++ [x]) W' ∧ KeepsWalks W W') ∨ (e = .returned (.bool false) ∧ Jx (pre ++ [x]) W'))
    (W : World) (hJ : AbidesFrom W.heap.size J) (hm : W.cell? ⟨Bm, 0, none⟩ = some (.map (some b))) (hown : W.ownsMap Try.prog 9 Rf b nn D0) (hF : Full D0) (h0 : J [] W) :
    CallsIn Fence.wide n Try.prog 48 #[.func (.yield l) #[] #[], .pointer (some ⟨Bm, 0, none⟩)] W fun e W' => (∃ v, e = .returned v) ∧
      ((∃ xs, Come D0 (fun _ => false) xs ∧ J xs W') ∨ (∃ pre, True ∧ Jx pre W')) := by
  refine callsIn_of_wp Try.func48 rfl trivial ?_ rfl
  simp only [Try.ntmps48, List.size_toArray, List.length_cons, List.length_nil, Nat.reduceAdd, Nat.reduceSub, Array.replicate_succ, Array.replicate_zero, List.push_toArray, List.append_toArray, List.nil_append, List.cons_append]
  gi_wp2_with (first
    | (gi_at_range; refine wpListIn_range_own _ rfl _ 57 rfl 9 63 (string_keyed Try.underlying9) Try.underlying57 _ b nn _ rfl hown ?_; intro w0 hrg0 hg0 hs0)
    | gi_in)
  go_frame
  gi_loopw [4] (fun _ wr => ∃ (left : Lit → Bool) (cnt : Nat) (xs : List Nat), wr.ranges Try.prog 9 Rf b W.heap.size nn D0 left cnt ∧ xs.length + cnt ≤ Maps.size D0 ∧ Come D0 left xs ∧ J xs wr)
    (fun _ wr => wr.rangeLeft b W.heap.size)
  case atStart =>
    exact ⟨_, _, [], hrg0, by simp, ⟨[], Collected.start D0, rfl⟩, hJ [] W w0 none h0 hg0 (fun r e => by cases e)⟩
  case round =>
    obtain ⟨left, cnt, xs, hrg, hcs, hC, hJs⟩ := hrel
    gi_wp2_with (first
      | (gi_at_next; refine wpListIn_next_ranges _ rfl _ rfl 9 (string_keyed Try.underlying9) Rf encStr id (fun key kl hk => by obtain ⟨x, hx, _⟩ := Maps.keyOf_str Try.underlying9 hk; exact ⟨x, hx⟩) (fun v y _ => ⟨v, rfl⟩) b W.heap.size nn _ _ _ rfl hrg ?_ ?_)
      | gi_in)
    · intro hc0 hl0
      gi_wp2
      go_end0
      obtain ⟨ks, hK, rfl⟩ := hC
      exact ⟨⟨_, rfl⟩, .inl ⟨_, ⟨ks, by rwa [show left = fun _ => false from funext hl0] at hK, rfl⟩, hJs⟩⟩
    · intro x c kl yd yp w2 cnt2 hkey hlk hv hat hrg2 hlt hg2 hs2 hen
      obtain ⟨x', ex, rfl, _⟩ := Maps.keyOf_str Try.underlying9 hkey
      obtain rfl : x = x' := encStr_inj ex
      obtain ⟨f, hf⟩ := hF _ _ (hat .nil) hat
      subst hf
      obtain rfl : c = encP f := Rf_at hv
      have hJ2 : J xs w2 := hJ _ wr w2 (some W.heap.size) hJs hg2 (fun r e => by cases e; exact ⟨Nat.le_refl _, hrg.iter_walk⟩)
      obtain ⟨fn, tmps, assign, body, hy, hR⟩ := hY xs f w2 hJ2 (by omega)
      have hC2 : Come D0 (fun z => left z && !z.sameKey (.string x)) (xs ++ [f]) := by
        obtain ⟨ks, hK, rfl⟩ := hC
        refine ⟨ks ++ [x], hK.step hlk hat, ?_⟩
        simp [blkAt, hat]
      clear hs2
      gi_wp2
      refine hR.mono ?_
      rintro e W3 (⟨rfl, hJ3, hk3⟩ | ⟨rfl, hJx3⟩)
      · gi_wp2
        have hrg3 := hrg2.of_walks hk3
        go_roundw
        case rel => exact ⟨_, cnt2, xs ++ [f], hrg3, by simp; omega, hC2, hJ3⟩
        case measure => rw [hrg3.left_eq, hrg.left_eq]; exact hlt
      · gi_wp2
        refine bodyPost_ret (results_none rfl _ _ _) rfl ?_
        exact ⟨⟨_, rfl⟩, .inr ⟨_, trivial, hJx3⟩⟩
theorem vals_stops (n : Nat) (hn : 1 ≤ n) (Bm b nn : Nat) (D0 : DataW Unit) (w : World) (hBm : Bm < w.heap.size) (hm : w.cell? ⟨Bm, 0, none⟩ = some (.map (some b))) (hown : w.ownsMap Try.prog 9 Rf b nn D0) (hF : Full D0) :
    SeqStopsK Fence.wide n Try.prog 48 #[.pointer (some ⟨Bm, 0, none⟩)] (fun f => #[encP f]) KeepsWalks (Come D0 fun _ => false) (fun _ => True) (Maps.size D0) w := fun l J Jx W hW hJ _ hY h0 =>
  vals1_in n hn l Bm b nn D0 J Jx hY W hJ ((hW.cell (p := ⟨Bm, 0, none⟩) hBm).trans hm) (ownsMap_heap hown (hW.block b hown.lt)) hF h0
theorem info63 : (Try.prog.info? 63).map (fun i => (i.zero, i.size, i.bytes)) = some (some (.pointer none), 1, 8) := by kernel_rfl
set_option maxRecDepth 100000 in
set_option maxHeartbeats 2000000 in
theorem appendSeq_in (n : Nat) (hn : 2 ≤ n) (Bm b nn : Nat) (D0 : DataW Unit) (hN : Maps.size D0 ≤ 1000000000) (w : World) (hBm : Bm < w.heap.size) (hm : w.cell? ⟨Bm, 0, none⟩ = some (.map (some b))) (hown : w.ownsMap Try.prog 9 Rf b nn D0) (hF : Full D0) :
    CallsIn Fence.wide n Try.prog 47 #[.slice none 0 0, .func (.func 48) #[] #[.pointer (some ⟨Bm, 0, none⟩)]] w fun e W' => ∃ v xs, e = .returned v ∧ Come D0 (fun _ => false) xs ∧ W'.ownsRow w.heap.size 63 1 v xs.length (xs.map encP) ∧ Below w.heap.size w W' := by
  have h1 : 1 ≤ n := by omega
  obtain ⟨i0, hi, hz0, hz1, hz2⟩ := info_parts info63
  refine callsIn_of_wp_marks Try.func47 rfl trivial ?_ rfl
  simp only [Try.ntmps47, List.size_toArray, List.length_cons, List.length_nil, Nat.reduceAdd, Nat.reduceSub, Array.replicate_succ, Array.replicate_zero, List.push_toArray, List.append_toArray, List.nil_append, List.cons_append]
  gi_wp2
  have bO := Boxed.new w 67 (.slice none 0 0)
  have hB0 : Below w.heap.size w (w.alloc (.cells #[.slice none 0 0] 67)) := (Below.refl _ w).alloc (Nat.le_refl _) _
  refine wpIn_rangeFunc_ownF rfl h1 (gf := 48) (lb := #[.pointer (some ⟨Bm, 0, none⟩)]) rfl trivial (enters_of Try.func48 (by kernel_rfl) rfl)
    ((vals_stops (n - 1) (by omega) Bm b nn D0 w hBm hm hown hF)) walksK_t walksK_b hB0 (fun _ => rfl)
    (fun pre W => (∃ v, Boxed W w.heap.size 67 v ∧ W.ownsRow w.heap.size 63 1 v pre.length (pre.map encP) ∧ True) ∧ Below w.heap.size w W)
    (fun _ _ _ => False)
    (OwnFrom.and (Own.from (holdsRow_own w.heap.size w.heap.size 67 63 1 (fun pre : List Nat => pre.length) (fun pre : List Nat => pre.map encP) (fun _ _ => True)) _) (ownFrom_below (Nat.le_refl _) (by simp)))
    (fun _ _ _ _ _ hs _ _ => hs)
    ⟨⟨_, bO, World.ownsRow_nil _ _ _ _, trivial⟩, hB0⟩
    (fun x => { tmps := #[.slice none 0 0, .func (.func 48) #[] #[.pointer (some ⟨Bm, 0, none⟩)], .pointer (some ⟨w.heap.size, 0, none⟩), undef, .slice none 0 0, encP x, .func (.func 48) #[] #[.pointer (some ⟨Bm, 0, none⟩)], encP x, undef, undef, undef, undef, undef], defers := [] }) ?assign ?body ?done ?stop
  case assign =>
    intro l x W K hK
    gi_wp2
    exact hK
  case body =>
    rintro l pre x W ⟨⟨v, hv, hrow, _⟩, hB⟩ hlt
    have hc := hv.cell
    gi_wp2_with (gi_at_builtin; refine wpListIn_append_own _ rfl _ _ 67 rfl w.heap.size 63 i0 (.pointer none) 1 8 Try.underlying67 hi hz0 hz1 hz2 rfl (by decide) _ _ _ rfl (hrow.alloc _) ⟨W.heap.size, 0, none⟩ 1 1 [encP x] rfl rfl (cell_one_new _ _ _) (by simp [Value.oneCell']) (by simp only [maxLen]; omega) (by omega) (by have := hB.size; simp; omega) ?_; intro v' w1 hown' hgrow _; obtain ⟨g', cap', rfl⟩ := ownsRow_succ hown'; obtain ⟨hv1, hv2, hr2, hk2, hb2⟩ := hv.appended (by decide) hrow hB.size (Nat.le_refl _) hown' hgrow; have hc1 := hv1.cell; have hf1 := hv1.frozen)
    exact ⟨hk2, hk2.walks, ⟨_, hv2, by simpa using hr2, trivial⟩, hB.trans hb2⟩
  case done =>
    rintro D ys W hD hS ⟨⟨v, hv, hrow, _⟩, hB⟩ hK
    have hc := hv.cell
    gi_wp2
    refine ⟨by simp, .inl ⟨_, _, rfl, run_takeDeferred hK, ?_⟩⟩
    exact ⟨_, results_tmp rfl _ _ _, v, ys, rfl, hS, ownsRow_putObj hrow _ hK rfl, hB.trans (belowK_b (w := w) (Nat.le_refl _) W D _ _ (by simp at hD; omega) hK rfl rfl)⟩
  case stop =>
    rintro D c pre W _ _ h _
    exact h.elim
theorem collect_calls (Bm b nn : Nat) (D0 : DataW Unit) (hN : Maps.size D0 ≤ 1000000000) (w : World) (hBm : Bm < w.heap.size) (hm : w.cell? ⟨Bm, 0, none⟩ = some (.map (some b))) (hown : w.ownsMap Try.prog 9 Rf b nn D0) (hF : Full D0) :
    Calls Try.prog 25 #[.func (.func 48) #[] #[.pointer (some ⟨Bm, 0, none⟩)]] w fun e W' => ∃ v xs, e = .returned v ∧ Come D0 (fun _ => false) xs ∧ W'.ownsRow w.heap.size 63 1 v xs.length (xs.map encP) ∧ Below w.heap.size w W' := by
  have H := Aside0.mk (callsIn_wide.1 (appendSeq_in 3 (by omega) Bm b nn D0 hN w hBm hm hown hF))
  clear hN hBm hm hown hF
  go_enter Try.func25, Try.ntmps25
  go_wp2_with (fail)
  refine H.out.mono ?_
  rintro e w2 ⟨v, xs, rfl, h1, h2, h3⟩
  have H1 := Aside0.mk h1
  have H2 := Aside0.mk h2
  have H3 := Aside0.mk h3
  clear h1 h2 h3
  go_wp2_with (fail)
  go_ret
  exact ⟨v, xs, rfl, H1.out, H2.out, H3.out⟩
theorem info65 : (Try.prog.info? 65).map (fun i => decide (i.size ≠ 0)) = some true := by kernel_rfl
theorem ptr_eql (w : World) (f g : Nat) (hf : ∃ c, w.heap[f]? = some (.cells c 65 (0, 0))) (hg : ∃ c, w.heap[g]? = some (.cells c 65 (0, 0))) : (binOp .eql 63 (encP f) (encP g)).run Try.prog w = .ok (.bool (f == g)) w := by
  obtain ⟨j, hj, hs⟩ : ∃ j, Try.prog.info? 65 = some j ∧ j.size ≠ 0 := by
    have := info65
    cases h : Try.prog.info? 65 with
    | none => rw [h] at this; cases this
    | some j => rw [h] at this; exact ⟨j, rfl, by simpa using this⟩
  obtain ⟨cf, hf⟩ := hf
  obtain ⟨cg, hg⟩ := hg
  by_cases e : f = g
  · subst e
    rw [run_eql_ptr_same w ⟨f, 0, none⟩ Try.underlying63 hj]; simp
  · rw [run_eql_ptr_other w (a := ⟨f, 0, none⟩) (b := ⟨g, 0, none⟩) Try.underlying63 hj hs (fun h => e (by cases h; rfl)) hf hg]
    simp [e]
theorem index_calls (v : Value) (base f : Nat) (xs : List Nat) (w : World) (hl : xs.length ≤ 1000000000) (h : w.ownsRow base 63 1 v xs.length (xs.map encP)) (hx : ∀ x ∈ xs, ∃ c, w.heap[x]? = some (.cells c 65 (0, 0))) (hf : ∃ c, w.heap[f]? = some (.cells c 65 (0, 0))) :
    Calls Try.prog 46 #[v, encP f] w fun e w' => (∃ r : Int, e = .returned (.int .i64 r) ∧ (0 ≤ r ↔ f ∈ xs)) ∧ w' = w := by
  rcases h.2 with ⟨rfl, h0⟩ | ⟨g, cap, cur, rfl, hb, hg, h1, h2, h3, h4⟩
  · have hx0 : xs = [] := List.eq_nil_of_length_eq_zero h0
    subst hx0
    clear h h0 hl hx hf
    go_enter Try.func46, Try.ntmps46
    go_wp2_with (fail)
    go_loop [5, 8] (fun _ i => i = .int .i64 0) (fun _ i => 0)
    case atStart => rfl
    case round =>
      obtain rfl := hrel
      go_wp2_with (fail)
      go_ret
      exact ⟨⟨_, rfl, by simp⟩, rfl⟩
  · have hcell := h.cells (g := g) rfl
    have HX := Aside0.mk hx
    have HF := Aside0.mk hf
    have HC := Aside0.mk hcell
    have HL := Aside0.mk hl
    clear h hb hg h1 h2 h3 h4 hx hf hcell
    have hl' : xs.length ≤ 9223372036854775807 := by omega
    clear hl
    go_enter Try.func46, Try.ntmps46
    go_wp2_with (fail)
    go_loop [5, 8] (fun _ i => ∃ k : Nat, k ≤ xs.length ∧ i = .int .i64 k ∧ ∀ j, j < k → xs[j]? ≠ some f) (fun _ i => xs.length - (intOf i).toNat)
    case atStart => exact ⟨0, Nat.zero_le _, rfl, fun j hj => absurd hj (Nat.not_lt_zero _)⟩
    case round =>
      obtain ⟨k, hk, rfl, hne⟩ := hrel
      by_cases hlt : k < xs.length
      · have hc : w.cell? ⟨g, k, none⟩ = some (encP xs[k]) := by
          have := HC.out k (encP xs[k]) (by simp [hlt])
          have hadd : (⟨g, 0, none⟩ : Addr).add k = ⟨g, k, none⟩ := by unfold Addr.add; split <;> simp_all
          rwa [hadd] at this
        have he := ptr_eql w f xs[k] HF.out (HX.out _ (List.getElem_mem hlt))
        have HN := Aside0.mk hne
        clear hne
        by_cases e : f = xs[k]
        · have e2 : (f == xs[k]) = true := by simpa using e
          rw [e2] at he
          have HE := Aside0.mk e
          clear e e2
          go_wp2_with (fail)
          go_ret
          exact ⟨⟨_, rfl, ⟨fun _ => by rw [HE.out]; exact List.getElem_mem hlt, fun _ => by omega⟩⟩, rfl⟩
        · have e2 : (f == xs[k]) = false := by simpa using e
          rw [e2] at he
          have HE := Aside0.mk e
          clear e e2
          go_wp2_with (fail)
          go_round
          case rel =>
            refine ⟨k + 1, by omega, by go_num, fun j hj hjf => ?_⟩
            by_cases ej : j = k
            · subst ej; rw [List.getElem?_eq_getElem hlt] at hjf; exact HE.out (Option.some.inj hjf).symm
            · exact HN.out j (by omega) hjf
          case measure => simp [intOf]; omega
      · have HN := Aside0.mk hne
        clear hne
        go_wp2_with (fail)
        go_ret
        refine ⟨⟨_, rfl, ⟨fun h => by omega, fun hm => ?_⟩⟩, rfl⟩
        obtain ⟨j, hj⟩ := List.getElem?_of_mem hm
        exact absurd hj (HN.out j (by have := (List.getElem?_eq_some_iff.1 hj).1; omega))
theorem contains_calls (v : Value) (base f : Nat) (xs : List Nat) (w : World) (hl : xs.length ≤ 1000000000) (h : w.ownsRow base 63 1 v xs.length (xs.map encP)) (hx : ∀ x ∈ xs, ∃ c, w.heap[x]? = some (.cells c 65 (0, 0))) (hf : ∃ c, w.heap[f]? = some (.cells c 65 (0, 0))) :
    Calls Try.prog 24 #[v, encP f] w fun e w' => e = .returned (.bool (decide (f ∈ xs))) ∧ w' = w := by
  have H := Aside0.mk (index_calls v base f xs w hl h hx hf)
  clear hl h hx hf
  go_enter Try.func24, Try.ntmps24
  go_wp2_with (fail)
  refine H.out.mono ?_
  rintro e w2 ⟨⟨r, rfl, hr⟩, rfl⟩
  have hd : decide (0 ≤ r) = decide (f ∈ xs) := decide_eq_decide.2 hr
  clear hr
  go_wp2_with (fail)
  go_ret
  exact ⟨by rw [← hd]; rfl, rfl⟩
end Go.Proofs.Ytcaipccgphblnaa.Dk
