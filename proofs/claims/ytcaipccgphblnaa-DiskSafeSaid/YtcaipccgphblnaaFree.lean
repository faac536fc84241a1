/- disk: Free. -/
import Derived.Test.YtcaipccgphblnaaVals
import Derived.LoopTactic
namespace Go.Proofs.Ytcaipccgphblnaa.Dk
open Go.RowKit Go.WideMaps Go.Maps Go.Proofs.YtcaipccgphblnaaW.PrintWords
set_option linter.unusedSimpArgs false
/-- The length of the file that a directory has at a name. -/
def lenAt (st : St) (l : Lk) (n : Bs) : Nat := match find l n with | some i => st.len i | none => 0
def goneAt (st : St) (n : Bs) : Nat := match find st.safe n with | some i => if (st.dir.map (·.2)).contains i then 0 else st.len i | none => 0
theorem strKeys_dirD (blk : Nat → Nat) (l : Lk) : strKeys (dirD blk l) = l.map (·.1) := by simp [strKeys, dirD, strOf]
theorem sum_perm {α : Type} {a b : List α} (f : α → Nat) (h : a.Perm b) : (a.map f).sum = (b.map f).sum := (h.map f).sum_nat
theorem sum_len (st : St) (l : Lk) (hn : (l.map (·.1)).Nodup) : ((l.map (·.1)).map (lenAt st l)).sum = sumL st (l.map (·.2)) := by
  unfold sumL
  rw [List.map_map, List.map_map]
  congr 1
  refine List.map_congr_left fun p hp => ?_
  simp only [Function.comp, lenAt, find_of_mem hn (show (p.1, p.2) ∈ l from hp)]
theorem sum_filter (f : Nat → Nat) (c : Nat → Bool) : ∀ l : List Nat, (l.map fun i => if c i then 0 else f i).sum = ((l.filter fun i => !c i).map f).sum
  | [] => rfl
  | x :: r => by
    have := sum_filter f c r
    cases hc : c x <;> simp [hc, this]
theorem sum_gone (st : St) (hn : (st.safe.map (·.1)).Nodup) : ((st.safe.map (·.1)).map (goneAt st)).sum = sumL st st.gone := by
  unfold sumL St.gone
  rw [← sum_filter, List.map_map, List.map_map]
  congr 1
  refine List.map_congr_left fun p hp => ?_
  simp only [Function.comp, goneAt, find_of_mem hn (show (p.1, p.2) ∈ st.safe from hp)]
theorem wrap_sub (a b : Int) : wrap64 (wrap64 a - b) = wrap64 (a - b) := by unfold wrap64; omega
theorem below_grown {w w' : World} (h : Below w.heap.size w w') (row : Option Nat) : w.grownBy w' row := ⟨h.os, h.tape, h.output, h.size, fun k hk _ => h.block k hk⟩
section
variable {L : Lay} {st : St} {fp : Nat → Prop} {b : Nat} {w : World}
/-- An element that a range over a directory brings is a file of it. -/
theorem entry_of {l : Lk} {blk : Nat → Nat} {n : Bs} {c : Value} {y : DataW Unit × List MemPlace} (hv : Rf c = some y) (hat : ∀ zd, (dirD blk l).atKey (.string n) zd = y.1) : ∃ i, find l n = some i ∧ c = encP (blk i) := by
  have h0 := dirD_atKey blk n l
  rw [hat .nil] at h0
  cases hf : find l n with
  | none =>
    have := has_true_of_atKey hat
    simp only [dirD, has_eq] at this
    obtain ⟨p, hp, hpk⟩ := List.any_eq_true.1 this
    obtain ⟨q, hq, rfl⟩ := List.mem_map.1 hp
    have e : q.1 = n := by simpa [Lit.sameKey] using hpk
    exact absurd (show (n, q.2) ∈ l from e ▸ hq) (find_none hf q.2)
  | some i =>
    rw [hf] at h0
    obtain ⟨yd, yp⟩ := y
    simp only at h0
    subst h0
    exact ⟨i, rfl, Rf_at hv⟩
theorem come_perm {blk : Nat → Nat} {l : Lk} {xs : List Nat} {W : World} {k n : Nat} (hown : W.ownsMap Try.prog 9 Rf k n (dirD blk l)) (hn : (l.map (·.1)).Nodup) (h : Come (dirD blk l) (fun _ => false) xs) : xs.Perm (l.map fun p => blk p.2) := by
  obtain ⟨ks, hK, rfl⟩ := h
  have hp := hK.perm hown (string_keyed Try.underlying9) Try.underlying9 (fun _ => rfl)
  rw [strKeys_dirD] at hp
  refine (hp.map _).trans (List.Perm.of_eq ?_)
  rw [List.map_map]
  refine List.map_congr_left fun p hp => ?_
  simp only [Function.comp, blkAt, dirD_atKey, find_of_mem hn (show (p.1, p.2) ∈ l from hp), Int.toNat_natCast]
set_option maxRecDepth 100000 in
set_option maxHeartbeats 1000000 in
theorem free_at (h : At L st fp b w) (hw : Wf st) (hfew : st.dir.length ≤ 1000000000) :
    Calls Try.prog 10 #[.pointer (some ⟨b, 0, none⟩)] w fun e w' => e = .returned (.int .i64 st.free) ∧ Below w.heap.size w w' := by
  have c0 : w.cell? ⟨b, 0, none⟩ = some (.int .i64 st.room) := by simp [World.cell?, h.cells, DCells]
  have c1 : w.cell? ⟨b, 1, none⟩ = some (.map (some L.m)) := by simp [World.cell?, h.cells, DCells]
  have hown := h.dir
  have HA := Aside0.mk h
  have HW := Aside0.mk hw
  have HFEW := Aside0.mk hfew
  clear h hw hfew
  go_enter Try.func10, Try.ntmps10
  go_wp2_with (first | (at_range; refine wpList_range_own _ rfl _ 57 rfl 9 63 (string_keyed Try.underlying9) Try.underlying57 _ L.m st.dir.length _ rfl hown ?_; intro w0 hrg0 hg0 hs0) | fail)
  go_frame
  go_loopw [3, 5] (fun v _ wr => ∃ (left : Lit → Bool) (cnt : Nat) (ks : List Bs), wr.ranges Try.prog 9 Rf L.m w.heap.size st.dir.length (dirD L.blk st.dir) left cnt ∧ Collected (dirD L.blk st.dir) left ks ∧
      v = .int .i64 (wrap64 (st.room - ((ks.map (lenAt st st.dir)).sum : Nat))) ∧ Below w.heap.size w wr)
    (fun _ _ wr => wr.rangeLeft L.m w.heap.size)
  case atStart =>
    have hr := HW.out.room
    refine ⟨_, _, [], hrg0, Collected.start _, ?_, (Below.refl _ _).grown hg0 (Nat.le_refl _) (fun k e => by cases e)⟩
    have : wrap64 (st.room - (((([] : List Bs).map (lenAt st st.dir)).sum : Nat) : Int)) = st.room := by
      simp only [List.map_nil, List.sum_nil]; unfold wrap64; omega
    rw [this]
  case round =>
    obtain ⟨left, cnt, ks, hrg, hC, rfl, hB⟩ := hrel
    go_wp2_with (first
      | (at_next; refine wpList_next_ranges _ rfl _ rfl 9 (string_keyed Try.underlying9) Rf encStr id (fun key kl hk => by obtain ⟨x, hx, _⟩ := Maps.keyOf_str Try.underlying9 hk; exact ⟨x, hx⟩) (fun v y _ => ⟨v, rfl⟩) L.m w.heap.size st.dir.length _ _ _ rfl hrg ?_ ?_)
      | fail)
    · intro hc0 hl0
      have hsum : (ks.map (lenAt st st.dir)).sum = sumL st (st.dir.map (·.2)) := by
        have hp := hC.perm hown (string_keyed Try.underlying9) Try.underlying9 hl0
        rw [strKeys_dirD] at hp
        rw [sum_perm _ hp, sum_len st st.dir HW.out.dir.names]
      rw [hsum]
      have hA1 := HA.out.below hB
      have c2 : wr.cell? ⟨b, 2, none⟩ = some (.map (some L.s)) := by simp [World.cell?, hA1.cells, DCells]
      have howns := hA1.sdir
      have HB := Aside0.mk hB
      have HA1 := Aside0.mk hA1
      clear hC hl0 hsum hrg hc0 hrg0 hg0 hs0 hB hA1
      obtain ⟨T, hT⟩ : ∃ T : Int, T = st.room - (sumL st (st.dir.map (·.2)) : Nat) := ⟨_, rfl⟩
      rw [← hT]
      have HT := Aside0.mk hT
      clear hT
      go_wp2_with (first | (at_range; refine wpList_range_own _ rfl _ 57 rfl 9 63 (string_keyed Try.underlying9) Try.underlying57 _ L.s st.safe.length _ rfl howns ?_; intro w0 hrg0 hg0 hs0) | fail)
      go_frame
      obtain ⟨wo, rfl⟩ : ∃ wo : World, wo = wr := ⟨_, rfl⟩
      go_loopw [3, 6, 7] (fun v _ _ wq => ∃ (left : Lit → Bool) (cnt : Nat) (ks : List Bs), wq.ranges Try.prog 9 Rf L.s wo.heap.size st.safe.length (dirD L.blk st.safe) left cnt ∧ Collected (dirD L.blk st.safe) left ks ∧
          v = .int .i64 (wrap64 (T - ((ks.map (goneAt st)).sum : Nat))) ∧ Below wo.heap.size wo wq)
        (fun _ _ _ wq => wq.rangeLeft L.s wo.heap.size)
      case atStart =>
        refine ⟨_, _, [], hrg0, Collected.start _, ?_, (Below.refl _ _).grown hg0 (Nat.le_refl _) (fun k e => by cases e)⟩
        simp
      case round =>
        clear hrg0 hg0 hs0
        obtain ⟨left, cnt, ks, hrg, hC, rfl, hB⟩ := hrel
        go_wp2_with (first
          | (at_next; refine wpList_next_ranges _ rfl _ rfl 9 (string_keyed Try.underlying9) Rf encStr id (fun key kl hk => by obtain ⟨x, hx, _⟩ := Maps.keyOf_str Try.underlying9 hk; exact ⟨x, hx⟩) (fun v y _ => ⟨v, rfl⟩) L.s wo.heap.size st.safe.length _ _ _ rfl hrg ?_ ?_)
          | fail)
        · intro hc0 hl0
          have hsum : (ks.map (goneAt st)).sum = sumL st st.gone := by
            have hp := hC.perm howns (string_keyed Try.underlying9) Try.underlying9 hl0
            rw [strKeys_dirD] at hp
            rw [sum_perm _ hp, sum_gone st HW.out.sdir.names]
          rw [hsum]
          have HBB := Aside0.mk hB
          have HSUM := Aside0.mk hsum
          clear hC hl0 hsum hrg hc0 hB
          go_wp2_with (fail)
          go_ret
          refine ⟨?_, HB.out.trans (HBB.out.mono HB.out.size)⟩
          have h1 := HT.out
          have h2 := HW.out.free
          have h3 := HW.out.room
          unfold St.free at h2 ⊢
          refine congrArg (fun z => Ending.returned (Value.int .i64 z)) ?_
          show wrap64 (T - (sumL st st.gone : Nat)) = _
          rw [h1]
          unfold wrap64
          omega
        · intro x c kl yd yp w2 cnt2 hkey hlk hv hat hrg2 hlt hg2 hs2 hen
          obtain ⟨x', ex, rfl, hxl⟩ := Maps.keyOf_str Try.underlying9 hkey
          obtain rfl : x = x' := encStr_inj ex
          obtain ⟨i, hi, rfl⟩ := entry_of hv hat
          have hu : st.used i := .inr (List.mem_map.2 ⟨_, find_some hi, rfl⟩)
          have hB2 : Below wo.heap.size wo w2 := hB.grown hg2 hB.size (fun k e => by cases e; exact Nat.le_refl _)
          have hA2 := HA1.out.below hB2
          have c12 : w2.cell? ⟨b, 1, none⟩ = some (.map (some L.m)) := by simp [World.cell?, hA2.cells, DCells]
          have HC2 : Aside0 (Collected (dirD L.blk st.safe) (fun z => left z && !z.sameKey (.string x)) (ks ++ [x])) := Aside0.mk (hC.step hlk hat)
          have HLT := Aside0.mk hlt
          have HR2 := Aside0.mk hrg2
          have HR := Aside0.mk hrg
          have HB2 := Aside0.mk hB2
          have HA2 := Aside0.mk hA2
          have HI := Aside0.mk hi
          have HXL := Aside0.mk hxl
          clear hs2 hC hlk hat hv hkey hg2 hB hlt hi hrg2 hrg hB2 hA2 hxl ex c1 c2 howns hown
          go_wp2_with (fail)
          refine (values_calls (some L.m) w2).mono ?_
          rintro e w3 ⟨rfl, rfl⟩
          go_wp2_with (fail)
          have hA3 := HA2.out.alloc (.cells #[.map (some L.m)] 57)
          refine (collect_calls w2.heap.size L.m st.dir.length (dirD L.blk st.dir) (by rw [dirD_size]; exact HFEW.out) _ (by simp) (by simp) hA3.dir (full_dirD _ _)).mono ?_
          rintro e w3 ⟨v, xs, rfl, hcome, hrow, hB3⟩
          have hperm := come_perm hA3.dir HW.out.dir.names hcome
          have hA4 := hA3.below hB3
          have hlen : xs.length ≤ 1000000000 := by rw [hperm.length_eq, List.length_map]; exact HFEW.out
          have hcell : ∀ j, st.used j → ∃ c, w3.heap[L.blk j]? = some (.cells c 65 (0, 0)) := fun j hj => ⟨_, hA4.file j hj⟩
          have HCT := Aside0.mk (contains_calls v _ (L.blk i) xs w3 hlen hrow (fun y hy => by
            obtain ⟨p, hp, rfl⟩ := List.mem_map.1 (hperm.mem_iff.1 hy)
            exact hcell p.2 (.inl (List.mem_map.2 ⟨p, hp, rfl⟩))) (hcell i hu))
          have hd : decide (L.blk i ∈ xs) = (st.dir.map (·.2)).contains i := by
            rw [Bool.eq_iff_iff, decide_eq_true_iff, List.contains_iff_mem, hperm.mem_iff]
            constructor
            · intro hm
              obtain ⟨p, hp, e⟩ := List.mem_map.1 hm
              have hup : st.used p.2 := .inl (List.mem_map.2 ⟨p, hp, rfl⟩)
              exact List.mem_map.2 ⟨p, hp, hA4.inj p.2 i hup hu e⟩
            · intro hm
              obtain ⟨p, hp, e⟩ := List.mem_map.1 hm
              exact List.mem_map.2 ⟨p, hp, by rw [e]⟩
          have hB4 : Below w2.heap.size w2 w3 := ((Below.refl _ _).alloc (Nat.le_refl _) _).trans (hB3.mono (by simp))
          have HRG := Aside0.mk (HR2.out.kept (below_grown hB4 none) (by simp) (by simp))
          have HBB := Aside0.mk (HB2.out.trans (hB4.mono HB2.out.size))
          obtain ⟨vv, hlk, hvv⟩ := dir_look hA4.sdir ⟨x.toArray⟩ (by show x.toArray.size ≤ maxLen; simpa using HXL.out)
          have hv0 : vv = encP (L.blk i) := by
            simp only [dirD_atKey, HI.out] at hvv
            rcases hvv with hvv | ⟨f', hf', hvv⟩
            · cases hvv.1
            · simp only [DataW.lit.injEq, Lit.int.injEq, true_and] at hf'
              rw [hvv, Int.ofNat.inj hf']
          subst hv0
          obtain ⟨a, cap, hvi, _, _⟩ := (HA.out.row i hu).form
          have c2 : w3.cell? ⟨L.blk i, 0, none⟩ = some (.slice a (st.file i).b.length cap) := by
            have := hA4.file i hu
            simp [World.cell?, this, hvi]
          have c3 : w3.cell? ⟨b, 2, none⟩ = some (.map (some L.s)) := by simp [World.cell?, hA4.cells, DCells]
          clear hcome hrow hB3 hperm hA4 hA3 hlen hcell hB4 hvv hvi
          go_wp2_with (fail)
          refine HCT.out.mono ?_
          rintro e w4 ⟨rfl, rfl⟩
          rw [hd]
          have hg : goneAt st x = if (st.dir.map (·.2)).contains i then 0 else st.len i := by simp only [goneAt, HI.out]
          cases hcon : (st.dir.map (·.2)).contains i with
          | true =>
            rw [hcon] at hg
            have HG := Aside0.mk hg
            clear hg hcon hd
            go_wp2_with (fail)
            go_roundw
            case rel =>
              refine ⟨_, cnt2, ks ++ [x], HRG.out, HC2.out, ?_, HBB.out⟩
              refine congrArg (Value.int .i64) ?_
              rw [List.map_append, List.sum_append, List.map_singleton, List.sum_singleton, HG.out]
              simp
            case measure => rw [HRG.out.left_eq, HR.out.left_eq]; exact HLT.out
          | false =>
            rw [hcon] at hg
            have HG := Aside0.mk hg
            clear hg hcon hd
            go_wp2_with (fail)
            go_roundw
            case rel =>
              refine ⟨_, cnt2, ks ++ [x], HRG.out, HC2.out, ?_, HBB.out⟩
              refine congrArg (Value.int .i64) ?_
              first | rw [wrap_sub] | skip
              rw [List.map_append, List.sum_append, List.map_singleton, List.sum_singleton, HG.out]
              congr 1
              simp only [St.len, Bool.false_eq_true, if_false]
              omega
            case measure => rw [HRG.out.left_eq, HR.out.left_eq]; exact HLT.out
    · intro x c kl yd yp w2 cnt2 hkey hlk hv hat hrg2 hlt hg2 hs2 hen
      obtain ⟨x', ex, rfl, _⟩ := Maps.keyOf_str Try.underlying9 hkey
      obtain rfl : x = x' := encStr_inj ex
      obtain ⟨i, hi, rfl⟩ := entry_of hv hat
      have hu := used_of_find hi
      have hB2 : Below w.heap.size w w2 := hB.grown hg2 hB.size (fun k e => by cases e; exact Nat.le_refl _)
      obtain ⟨a, cap, hvi, _, _⟩ := (HA.out.row i hu).form
      have c2 : w2.cell? ⟨L.blk i, 0, none⟩ = some (.slice a (st.file i).b.length cap) := by
        have := (HA.out.below hB2).file i hu
        simp [World.cell?, this, hvi]
      have HC2 : Aside0 (Collected (dirD L.blk st.dir) (fun z => left z && !z.sameKey (.string x)) (ks ++ [x])) := Aside0.mk (hC.step hlk hat)
      have HLT := Aside0.mk hlt
      have HR2 := Aside0.mk hrg2
      have HR := Aside0.mk hrg
      have HB2 := Aside0.mk hB2
      have HI := Aside0.mk hi
      clear hs2 hC hlk hat hv hkey hg2 hB hlt hi hrg2 hrg hB2 hvi
      go_wp2_with (fail)
      go_roundw
      case rel =>
        refine ⟨_, cnt2, ks ++ [x], HR2.out, HC2.out, ?_, HB2.out⟩
        refine congrArg (Value.int .i64) ?_
        have e : lenAt st st.dir x = (st.file i).b.length := by simp only [lenAt, HI.out]; rfl
        first | rw [wrap_sub] | skip
        rw [List.map_append, List.sum_append, List.map_singleton, List.sum_singleton, e]
        congr 1
        omega
      case measure => rw [HR2.out.left_eq, HR.out.left_eq]; exact HLT.out
end
end Go.Proofs.Ytcaipccgphblnaa.Dk
