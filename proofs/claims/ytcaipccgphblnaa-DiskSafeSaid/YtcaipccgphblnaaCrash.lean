/- disk: Crash. -/
import Derived.Test.YtcaipccgphblnaaWrite2
namespace Go.Proofs.Ytcaipccgphblnaa.Dk
open Go.RowKit Go.WideMaps Go.Maps Go.Proofs.YtcaipccgphblnaaW.PrintWords
set_option linter.unusedSimpArgs false
/-- The files of a list, as a crash leaves them. -/
def crashOn (keep : Int) (s : St) (l : List Nat) : St := l.foldl (fun s i => s.upd i (crashF keep (s.file i))) s
theorem crashOn_snoc (keep : Int) (s : St) (l : List Nat) (i : Nat) : crashOn keep s (l ++ [i]) = (crashOn keep s l).upd i (crashF keep ((crashOn keep s l).file i)) := by simp [crashOn]
theorem crashOn_same (keep : Int) : ∀ (l : List Nat) (s : St), (crashOn keep s l).room = s.room ∧ (crashOn keep s l).dir = s.dir ∧ (crashOn keep s l).safe = s.safe ∧ (crashOn keep s l).files.length = s.files.length ∧ (crashOn keep s l).failing = s.failing ∧ (crashOn keep s l).left = s.left ∧ (crashOn keep s l).torn = s.torn
  | [], _ => ⟨rfl, rfl, rfl, rfl, rfl, rfl, rfl⟩
  | i :: r, s => by
    have h := crashOn_same keep r (s.upd i (crashF keep (s.file i)))
    refine ⟨h.1, h.2.1, h.2.2.1, ?_, h.2.2.2.2⟩
    rw [show crashOn keep s (i :: r) = crashOn keep (s.upd i (crashF keep (s.file i))) r from rfl, h.2.2.2.1]
    simp [St.upd]
theorem crashOn_other (keep : Int) : ∀ (l : List Nat) (s : St) (j : Nat), j ∉ l → (crashOn keep s l).file j = s.file j
  | [], _, _, _ => rfl
  | i :: r, s, j, hj => by
    rw [show crashOn keep s (i :: r) = crashOn keep (s.upd i (crashF keep (s.file i))) r from rfl, crashOn_other keep r _ j (fun h => hj (List.mem_cons_of_mem _ h)), file_upd_other (fun e => hj (by rw [e]; exact List.mem_cons_self))]
theorem crashOn_in (keep : Int) : ∀ (l : List Nat) (s : St) (j : Nat), l.Nodup → j ∈ l → j < s.files.length → (crashOn keep s l).file j = crashF keep (s.file j)
  | [], _, _, _, hj, _ => by simp at hj
  | i :: r, s, j, hn, hj, hl => by
    rw [List.nodup_cons] at hn
    rw [show crashOn keep s (i :: r) = crashOn keep (s.upd i (crashF keep (s.file i))) r from rfl]
    rcases List.mem_cons.1 hj with e | hj
    · subst e
      rw [crashOn_other keep r _ j hn.1, file_upd_same hl]
    · rw [crashOn_in keep r _ j hn.2 hj (by simpa [St.upd] using hl), file_upd_other (fun e => hn.1 (by rw [e]; exact hj))]
theorem crashF_le {keep : Int} {f : F} (h : f.safe ≤ f.b.length) : (crashF keep f).safe ≤ f.b.length := by
  unfold crashF
  split <;> simp only <;> omega
theorem crashF_b (keep : Int) (f : F) : (crashF keep f).b = f.b.take (crashF keep f).safe := rfl
theorem crashF_int {keep : Int} {f : F} (h : f.safe ≤ f.b.length) (hk : 0 < keep) : ((crashF keep f).safe : Int) = f.safe + min keep ((f.b.length : Int) - f.safe) := by
  unfold crashF
  rw [if_pos hk]
  simp only
  omega
/-- A row cut short: its room goes with it. -/
theorem Row.cut {w : World} {a : Option Addr} {cap : Nat} {xs : Bs} (h : Row w (.slice a xs.length cap) xs) {n : Nat} (hn : n ≤ xs.length) : Row w (.slice a n n) (xs.take n) := by
  rcases h with ⟨hv, rfl⟩ | ⟨g, cap', cur, hv, hg, h1, h2, h3, h4⟩
  · cases hv
    have : n = 0 := by simpa using hn
    subst this
    exact .inl ⟨rfl, by simp⟩
  · cases hv
    refine .inr ⟨g, n, cur, by simp [Nat.min_eq_left hn], hg, by simp [Nat.min_eq_left hn], by omega, .inr ⟨by simp [Nat.min_eq_left hn], by omega⟩, ?_⟩
    rw [List.length_take, Nat.min_eq_left hn, List.map_take, ← h4, List.take_take, Nat.min_eq_left hn]
section
variable {L : Lay} {st : St} {fp : Nat → Prop} {b : Nat} {w : World}
theorem At.congr (h : At L st fp b w) {st' : St} (h1 : st'.room = st.room) (h2 : st'.dir = st.dir) (h3 : st'.safe = st.safe) (h4 : st'.failing = st.failing) (h5 : st'.left = st.left) (h6 : st'.torn = st.torn) (hf : ∀ i, st.used i → st'.file i = st.file i) : At L st' fp b w := by
  have hu : ∀ i, st'.used i → st.used i := fun i hi => by unfold St.used at *; rwa [h2, h3] at hi
  exact { cells := by rw [h1, h4, h5, h6]; exact h.cells
          dir := by rw [h2]; exact h.dir
          sdir := by rw [h3]; exact h.sdir
          ms := h.ms
          file := fun i hi => by rw [hf i (hu i hi)]; exact h.file i (hu i hi)
          row := fun i hi => by rw [hf i (hu i hi)]; exact h.row i (hu i hi)
          inj := fun i j hi hj => h.inj i j (hu i hi) (hu j hj)
          sep := fun i j hi hj => h.sep i j (hu i hi) (hu j hj)
          fpb := h.fpb
          fpm := h.fpm
          fps := h.fps
          fpf := fun i hi => h.fpf i (hu i hi)
          fpr := fun i hi => h.fpr i (hu i hi)
          fpl := h.fpl }
theorem name_at {l : Lk} (h : (l.map (·.2)).Nodup) {a c : Bs} {i : Nat} (ha : (a, i) ∈ l) (hc : (c, i) ∈ l) : a = c := by
  induction l with
  | nil => simp at ha
  | cons p r ih =>
    simp only [List.map_cons, List.nodup_cons] at h
    rcases List.mem_cons.1 ha with e | ha' <;> rcases List.mem_cons.1 hc with e' | hc'
    · rw [← e] at e'; cases e'; rfl
    · exact absurd (List.mem_map.2 ⟨_, hc', by rw [← e]⟩) h.1
    · exact absurd (List.mem_map.2 ⟨_, ha', by rw [← e']⟩) h.1
    · exact ih h.2 ha' hc'
/-- The file at a name. -/
def atOf (l : Lk) (n : Bs) : Nat := match find l n with | some i => i | none => 0
theorem crash_roundK {keep : Int} {v' : Nat → Value} {ks : List Bs} {x : Bs} {i : Nat} {w2 : World} {a : Option Addr} {cap cnt2 m : Nat} {left : Lit → Bool} {K : Nat} (hw : Wf st)
    (hr2 : w2.ranges Try.prog 9 Rf L.s w.heap.size st.safe.length (dirD L.blk st.safe) left cnt2)
    (hA : At { L with v := v' } (crashOn keep st (ks.map (atOf st.safe))) fp b w2) (hu : (crashOn keep st (ks.map (atOf st.safe))).used i)
    (hv : v' i = .slice a (st.file i).b.length cap) (hfi : (crashOn keep st (ks.map (atOf st.safe))).file i = st.file i)
    (hfile : w2.heap[L.blk i]? = some (.cells #[.slice a (st.file i).b.length cap, .int .i64 (st.file i).safe] 65 (0, 0)))
    {wr : World} (hF : Fr fp w wr) (hg : wr.grownBy w2 (some w.heap.size)) (hs : w2.heap.size = w.heap.size + 1) (hC : Collected (dirD L.blk st.safe) left (ks ++ [x])) (hi : find st.safe x = some i)
    (hl : ∀ k, fp k → k < w.heap.size) (hK : (crashF keep (st.file i)).safe = K)
    (hm : ((w2.setCell ⟨L.blk i, 0, none⟩ (.slice a K K)).setCell ⟨L.blk i, 1, none⟩ (.int .i64 (K : Nat))).ranges Try.prog 9 Rf L.s w.heap.size st.safe.length (dirD L.blk st.safe) left cnt2 → ((w2.setCell ⟨L.blk i, 0, none⟩ (.slice a K K)).setCell ⟨L.blk i, 1, none⟩ (.int .i64 (K : Nat))).rangeLeft L.s w.heap.size < m) :
    (∃ left cnt ks v', ((w2.setCell ⟨L.blk i, 0, none⟩ (.slice a K K)).setCell ⟨L.blk i, 1, none⟩ (.int .i64 (K : Nat))).ranges Try.prog 9 Rf L.s w.heap.size st.safe.length (dirD L.blk st.safe) left cnt ∧ Collected (dirD L.blk st.safe) left ks ∧
      At { L with v := v' } (crashOn keep st (ks.map (atOf st.safe))) fp b ((w2.setCell ⟨L.blk i, 0, none⟩ (.slice a K K)).setCell ⟨L.blk i, 1, none⟩ (.int .i64 (K : Nat))) ∧
      Fr fp w ((w2.setCell ⟨L.blk i, 0, none⟩ (.slice a K K)).setCell ⟨L.blk i, 1, none⟩ (.int .i64 (K : Nat))) ∧ ((w2.setCell ⟨L.blk i, 0, none⟩ (.slice a K K)).setCell ⟨L.blk i, 1, none⟩ (.int .i64 (K : Nat))).heap.size = w.heap.size + 1) ∧
    ((w2.setCell ⟨L.blk i, 0, none⟩ (.slice a K K)).setCell ⟨L.blk i, 1, none⟩ (.int .i64 (K : Nat))).rangeLeft L.s w.heap.size < m := by
  have hKl : K ≤ (st.file i).b.length := by rw [← hK]; exact crashF_le (hw.safe i)
  have hfb := hA.fpf i hu
  simp only at hfb
  obtain ⟨w3, hw3⟩ : ∃ w3, (w2.setCell ⟨L.blk i, 0, none⟩ (.slice a K K)).setCell ⟨L.blk i, 1, none⟩ (.int .i64 (K : Nat)) = w3 := ⟨_, rfl⟩
  have hs3 : w3.heap.size = w2.heap.size := by rw [← hw3]; simp
  have hg3 : w2.grownBy w3 (some (L.blk i)) := by
    rw [← hw3]
    refine ⟨rfl, rfl, rfl, by simp, fun k hk hne => ?_⟩
    have hkb : k ≠ L.blk i := fun e => hne (by rw [e])
    exact (Below.heap_setCell _ _ _ k hkb).trans (Below.heap_setCell _ _ _ k hkb)
  have hf3 : w3.heap[L.blk i]? = some (.cells #[.slice a K K, .int .i64 (K : Nat)] 65 (0, 0)) := by
    rw [← hw3]
    simp [World.setCell, Array.getElem?_modify, hfile]
  rw [hw3] at hm ⊢
  have hrg3 := hr2.kept hg3 (fun e => hA.sf hu (Option.some.inj e).symm) (fun e => by have := hl _ hfb; have := Option.some.inj e; omega)
  refine ⟨⟨left, cnt2, ks ++ [x], fun j => if j = i then .slice a K K else v' j, hrg3, hC, ?_, ?_, hs3.trans hs⟩, hm hrg3⟩
  · have ownb : ∀ g, (Value.slice a K K).ownBlock = some g → (v' i).ownBlock = some g := fun g hg' => by rw [hv, ← hg']; cases a <;> rfl
    have hrow := hA.row i hu
    rw [hfi] at hrow
    simp only [hv] at hrow
    have h1 := hA.updF hu (by rw [(crashOn_same keep _ st).2.2.2.1]; exact hw.sdir.lt _ (find_some hi)) (w' := w3) (f := crashF keep (st.file i)) (v' := .slice a K K) (Nat.le_of_eq hs3.symm) (.inl (by simp only [hv]; cases a <;> rfl))
      (fun k hk1 hk2 _ => hg3.block k hk1 (fun e => hk2 (Option.some.inj e))) (by rw [hK]; exact hf3) (by rw [crashF_b, hK]; exact (hrow.cut hKl).heap fun g hg' => hg3.block g ((hA.row i hu).lt (ownb g hg')) (fun e => hA.fr hu hu (ownb g hg') (Option.some.inj e).symm))
    have e1 : crashOn keep st ((ks ++ [x]).map (atOf st.safe)) = (crashOn keep st (ks.map (atOf st.safe))).upd i (crashF keep (st.file i)) := by
      rw [List.map_append, List.map_singleton, crashOn_snoc, show atOf st.safe x = i by simp only [atOf, hi], hfi]
    rw [e1]
    exact h1.mono (fun k hk => hk.elim id (fun e => by omega)) (fun k hk => by have := hA.fpl k hk; omega)
  · exact (hF.trans (Fr.of_grownBy (fp := fun k => k = w.heap.size) hg (fun k e => by cases e; rfl)) (fun k hk e => by omega)).trans (Fr.of_grownBy hg3 (fun k e => by cases e; exact hfb)) (fun _ _ h => h)
theorem crash_round {keep : Int} {v' : Nat → Value} {ks : List Bs} {x : Bs} {i : Nat} {w2 : World} {a : Option Addr} {cap cnt2 m : Nat} {left : Lit → Bool} {N : Int} (hw : Wf st)
    (hr2 : w2.ranges Try.prog 9 Rf L.s w.heap.size st.safe.length (dirD L.blk st.safe) left cnt2)
    (hA : At { L with v := v' } (crashOn keep st (ks.map (atOf st.safe))) fp b w2) (hu : (crashOn keep st (ks.map (atOf st.safe))).used i)
    (hv : v' i = .slice a (st.file i).b.length cap) (hfi : (crashOn keep st (ks.map (atOf st.safe))).file i = st.file i)
    (hfile : w2.heap[L.blk i]? = some (.cells #[.slice a (st.file i).b.length cap, .int .i64 (st.file i).safe] 65 (0, 0)))
    {wr : World} (hF : Fr fp w wr) (hg : wr.grownBy w2 (some w.heap.size)) (hs : w2.heap.size = w.heap.size + 1) (hC : Collected (dirD L.blk st.safe) left (ks ++ [x])) (hi : find st.safe x = some i)
    (hl : ∀ k, fp k → k < w.heap.size) (hN : N = ((crashF keep (st.file i)).safe : Int))
    (hm : ((w2.setCell ⟨L.blk i, 0, none⟩ (.slice a N.toNat N.toNat)).setCell ⟨L.blk i, 1, none⟩ (.int .i64 N)).ranges Try.prog 9 Rf L.s w.heap.size st.safe.length (dirD L.blk st.safe) left cnt2 → ((w2.setCell ⟨L.blk i, 0, none⟩ (.slice a N.toNat N.toNat)).setCell ⟨L.blk i, 1, none⟩ (.int .i64 N)).rangeLeft L.s w.heap.size < m) :
    (∃ left cnt ks v', ((w2.setCell ⟨L.blk i, 0, none⟩ (.slice a N.toNat N.toNat)).setCell ⟨L.blk i, 1, none⟩ (.int .i64 N)).ranges Try.prog 9 Rf L.s w.heap.size st.safe.length (dirD L.blk st.safe) left cnt ∧ Collected (dirD L.blk st.safe) left ks ∧
      At { L with v := v' } (crashOn keep st (ks.map (atOf st.safe))) fp b ((w2.setCell ⟨L.blk i, 0, none⟩ (.slice a N.toNat N.toNat)).setCell ⟨L.blk i, 1, none⟩ (.int .i64 N)) ∧
      Fr fp w ((w2.setCell ⟨L.blk i, 0, none⟩ (.slice a N.toNat N.toNat)).setCell ⟨L.blk i, 1, none⟩ (.int .i64 N)) ∧ ((w2.setCell ⟨L.blk i, 0, none⟩ (.slice a N.toNat N.toNat)).setCell ⟨L.blk i, 1, none⟩ (.int .i64 N)).heap.size = w.heap.size + 1) ∧
    ((w2.setCell ⟨L.blk i, 0, none⟩ (.slice a N.toNat N.toNat)).setCell ⟨L.blk i, 1, none⟩ (.int .i64 N)).rangeLeft L.s w.heap.size < m := by
  subst hN
  rw [Int.toNat_natCast] at hm ⊢
  exact crash_roundK hw hr2 hA hu hv hfi hfile hF hg hs hC hi hl rfl hm
set_option maxRecDepth 100000 in
set_option maxHeartbeats 1000000 in
theorem crash_pos (h : At L st fp b w) (hw : Wf st) (keep : Int) (hk : 0 < keep) :
    Calls Try.prog 16 #[.pointer (some ⟨b, 0, none⟩), .int .i64 keep] w fun e w' => e = .returned (.tuple #[]) ∧ Nx (st.crash keep) fp b w w' := by
  have c2 : w.cell? ⟨b, 2, none⟩ = some (.map (some L.s)) := by simp [World.cell?, h.cells, DCells]
  have howns := h.sdir
  have HA := Aside0.mk h
  have HW := Aside0.mk hw
  clear h hw
  go_enter Try.func16, Try.ntmps16
  go_wp2_with (first | (at_range; refine wpList_range_own _ rfl _ 57 rfl 9 63 (string_keyed Try.underlying9) Try.underlying57 _ L.s st.safe.length _ rfl howns ?_; intro w0 hrg0 hg0 hs0) | fail)
  go_frame
  go_loopw [5, 6] (fun _ _ wr => ∃ (left : Lit → Bool) (cnt : Nat) (ks : List Bs) (v' : Nat → Value), wr.ranges Try.prog 9 Rf L.s w.heap.size st.safe.length (dirD L.blk st.safe) left cnt ∧ Collected (dirD L.blk st.safe) left ks ∧
      At { L with v := v' } (crashOn keep st (ks.map (atOf st.safe))) fp b wr ∧ Fr fp w wr ∧ wr.heap.size = w.heap.size + 1)
    (fun _ _ wr => wr.rangeLeft L.s w.heap.size)
  case atStart =>
    refine ⟨_, _, [], L.v, hrg0, Collected.start _, ?_, Fr.of_grownBy hg0 (fun k e => by cases e), hs0⟩
    exact HA.out.below ((Below.refl _ _).grown hg0 (Nat.le_refl _) (fun k e => by cases e))
  case round =>
    clear hrg0 hg0 hs0
    obtain ⟨left, cnt, ks, v', hrg, hC, hA1, hF1, hS1⟩ := hrel
    have HS1 := Aside0.mk hS1
    clear hS1
    go_wp2_with (first
      | (at_next; refine wpList_next_ranges _ rfl _ rfl 9 (string_keyed Try.underlying9) Rf encStr id (fun key kl hk => by obtain ⟨x, hx, _⟩ := Maps.keyOf_str Try.underlying9 hk; exact ⟨x, hx⟩) (fun v y _ => ⟨v, rfl⟩) L.s w.heap.size st.safe.length _ _ _ rfl hrg ?_ ?_)
      | fail)
    · intro hc0 hl0
      have hA := HA.out
      have hks : ∀ i, i ∈ st.safe.map (·.2) → (crashOn keep st (ks.map (atOf st.safe))).file i = crashF keep (st.file i) := by
        intro i hi
        have hp := hC.perm howns (string_keyed Try.underlying9) Try.underlying9 hl0
        rw [strKeys_dirD] at hp
        have hp2 : (ks.map (atOf st.safe)).Perm (st.safe.map (·.2)) := by
          refine (hp.map _).trans (List.Perm.of_eq ?_)
          rw [List.map_map]
          refine List.map_congr_left fun p hp => ?_
          simp only [Function.comp, atOf, find_of_mem HW.out.sdir.names (show (p.1, p.2) ∈ st.safe from hp)]
        refine crashOn_in keep _ _ _ (hp2.nodup_iff.2 HW.out.sdir.ats) (hp2.mem_iff.2 hi) ?_
        obtain ⟨p, hp, rfl⟩ := List.mem_map.1 hi
        exact HW.out.sdir.lt p hp
      have hsame := crashOn_same keep (ks.map (atOf st.safe)) st
      have hcells := hA1.cells
      rw [hsame.1, hsame.2.2.2.2.1, hsame.2.2.2.2.2.1, hsame.2.2.2.2.2.2] at hcells
      have k2 : wr.cell? ⟨b, 2, none⟩ = some (.map (some L.s)) := by simp [World.cell?, hcells, DCells]
      have hsd := hA1.sdir
      rw [hsame.2.2.1] at hsd
      have HA1 := Aside0.mk hA1
      have HF1 := Aside0.mk hF1
      have HKS := Aside0.mk hks
      have HCELLS := Aside0.mk hcells
      have HSAME := Aside0.mk hsame
      have HSD := Aside0.mk hsd
      clear hc0 hl0 hrg hC hA hA1 hks hF1 hcells hsame hsd c2 howns
      go_wp2_with (fail)
      refine (clone_calls L.s st.safe.length _ wr HSD.out).mono ?_
      rintro e w3 ⟨rfl, hm1, hm2, hB3⟩
      have hc3 : w3.heap[b]? = some (DCells st.room (.map (some L.m)) (.map (some L.s)) st.failing st.left st.torn) := (hB3.block b HA1.out.lt_b).trans HCELLS.out
      have q1 : w3.cell? ⟨b, 1, none⟩ = some (.map (some L.m)) := by simp [World.cell?, hc3, DCells]
      have q3 : w3.cell? ⟨b, 3, none⟩ = some (.bool st.failing) := by simp [World.cell?, hc3, DCells]
      have q5 : w3.cell? ⟨b, 5, none⟩ = some (.bool st.torn) := by simp [World.cell?, hc3, DCells]
      have f1 : w3.frozen? ⟨b, 1, none⟩ = false := by simp [World.frozen?, hc3, DCells]
      have f3 : w3.frozen? ⟨b, 3, none⟩ = false := by simp [World.frozen?, hc3, DCells]
      have f5 : w3.frozen? ⟨b, 5, none⟩ = false := by simp [World.frozen?, hc3, DCells]
      have HM1 := Aside0.mk hm1
      have HM2 := Aside0.mk hm2
      have HB3 := Aside0.mk hB3
      have HC3 := Aside0.mk hc3
      clear hm1 hm2 hB3 hc3
      go_wp2_with (fail)
      go_end0
      obtain ⟨w4, hw4⟩ : ∃ w4, ((w3.setCell ⟨b, 1, none⟩ (.map (some wr.heap.size))).setCell ⟨b, 3, none⟩ (.bool false)).setCell ⟨b, 5, none⟩ (.bool false) = w4 := ⟨_, rfl⟩
      have hs4 : w4.heap.size = w3.heap.size := by rw [← hw4]; simp
      have hg4 : w3.grownBy w4 (some b) := by
        rw [← hw4]
        refine ⟨rfl, rfl, rfl, by simp, fun k hk hne => ?_⟩
        have hkb : k ≠ b := fun e => hne (by rw [e])
        exact ((Below.heap_setCell _ _ _ k hkb).trans (Below.heap_setCell _ _ _ k hkb)).trans (Below.heap_setCell _ _ _ k hkb)
      have hc4 : w4.heap[b]? = some (DCells st.room (.map (some wr.heap.size)) (.map (some L.s)) false st.left false) := by
        rw [← hw4]
        simp [World.setCell, Array.getElem?_modify, HC3.out, DCells]
      refine ⟨rfl, ?_⟩
      show Nx (st.crash keep) fp b w (((w3.setCell ⟨b, 1, none⟩ (.map (some wr.heap.size))).setCell ⟨b, 3, none⟩ (.bool false)).setCell ⟨b, 5, none⟩ (.bool false))
      rw [hw4]
      have hA1 := HA1.out
      have hF1 := HF1.out
      have hB3 := HB3.out
      have hkeep : ∀ k, fp k → k ≠ b → w4.heap[k]? = wr.heap[k]? := fun k hk hkb => (hg4.block k (by have := hA1.fpl k hk; have := hB3.size; omega) (fun e => hkb (Option.some.inj e))).trans (hB3.block k (hA1.fpl k hk))
      have hu : ∀ i, (st.crash keep).used i → (crashOn keep st (ks.map (atOf st.safe))).used i := fun i hi => by
        unfold St.used
        rw [HSAME.out.2.2.1]
        exact .inr (hi.elim id id)
      have hus : ∀ i, (st.crash keep).used i → i ∈ st.safe.map (·.2) := fun i hi => hi.elim id id
      have hfile : ∀ i, (st.crash keep).used i → (st.crash keep).file i = (crashOn keep st (ks.map (atOf st.safe))).file i := fun i hi => by
        rw [HKS.out i (hus i hi)]
        obtain ⟨p, hp, rfl⟩ := List.mem_map.1 (hus i hi)
        have hlt := HW.out.sdir.lt p hp
        simp [St.crash, St.file, List.getElem?_map, List.getElem?_eq_getElem hlt]
      have hwl : wr.heap.size < w4.heap.size := by have := HM1.out.lt; omega
      refine ⟨⟨⟨wr.heap.size, L.s, L.blk, v'⟩, ?_⟩, (hF1.trans (Fr.of_below (fp := fp) hB3) (fun _ _ h => h)).trans (Fr.of_grownBy hg4 (fun k e => by cases e; exact hA1.fpb)) (fun _ _ h => h)⟩
      have hsw := hF1.size
      exact { cells := hc4
              dir := HM1.out.kept hg4 (fun e => by have := hA1.lt_b; have := Option.some.inj e; omega)
              sdir := HM2.out.kept hg4 (fun e => hA1.bs (Option.some.inj e))
              ms := fun e => by have := HSD.out.lt; simp only at e; omega
              file := fun i hi => by rw [hfile i hi]; exact (hkeep _ (hA1.fpf i (hu i hi)) (hA1.bf (hu i hi))).trans (hA1.file i (hu i hi))
              row := fun i hi => by rw [hfile i hi]; exact (hA1.row i (hu i hi)).heap fun g hg' => hkeep g (hA1.fpr i (hu i hi) g hg') (hA1.br (hu i hi) hg')
              inj := fun i j hi hj => hA1.inj i j (hu i hi) (hu j hj)
              sep := fun i j hi hj => hA1.sep i j (hu i hi) (hu j hj)
              fpb := .inl hA1.fpb
              fpm := .inr ⟨hsw, hwl⟩
              fps := .inl hA1.fps
              fpf := fun i hi => .inl (hA1.fpf i (hu i hi))
              fpr := fun i hi g hg' => .inl (hA1.fpr i (hu i hi) g hg')
              fpl := fun k hk' => hk'.elim (fun e => by have := hA1.fpl k e; omega) (fun e => e.2) }
    · intro x c kl yd yp w2 cnt2 hkey hlk hv hat hrg2 hlt hg2 hs2 hen
      obtain ⟨x', ex, rfl, hxl⟩ := Maps.keyOf_str Try.underlying9 hkey
      obtain rfl : x = x' := encStr_inj ex
      obtain ⟨i, hi, rfl⟩ := entry_of hv hat
      have hsame := crashOn_same keep (ks.map (atOf st.safe)) st
      have hus : st.used i := .inr (List.mem_map.2 ⟨_, find_some hi, rfl⟩)
      have hu : (crashOn keep st (ks.map (atOf st.safe))).used i := by unfold St.used; rw [hsame.2.1, hsame.2.2.1]; exact hus
      have hnot : i ∉ ks.map (atOf st.safe) := fun hm => by
        obtain ⟨k, hk, hki⟩ := List.mem_map.1 hm
        have hkk := (hC.2 k).1 hk
        have hne : k ≠ x := fun e => by subst e; rw [hlk] at hkk; cases hkk.2
        cases hfk : find st.safe k with
        | none =>
          have hh := hkk.1
          simp only [dirD, has_eq] at hh
          obtain ⟨p, hp, hpk⟩ := List.any_eq_true.1 hh
          obtain ⟨q, hq, rfl⟩ := List.mem_map.1 hp
          have e : q.1 = k := by simpa [Lit.sameKey] using hpk
          exact find_none hfk q.2 (e ▸ hq)
        | some j =>
          simp only [atOf, hfk] at hki
          subst hki
          exact hne (name_at HW.out.sdir.ats (find_some hfk) (find_some hi))
      have hfi : (crashOn keep st (ks.map (atOf st.safe))).file i = st.file i := crashOn_other keep _ _ _ hnot
      have hA2 : At { L with v := v' } (crashOn keep st (ks.map (atOf st.safe))) fp b w2 := hA1.keep hg2.size fun k hk => hg2.block k (by have := hA1.fpl k hk; omega) (fun e => by have := HA.out.fpl k hk; cases e; omega)
      obtain ⟨a, cap, hvi, hc1, hc2⟩ := (hA2.row i hu).form
      have hfile := hA2.file i hu
      simp only at hvi hfile
      rw [hfi] at hvi hc1 hfile
      rw [hvi] at hfile
      have hle : (st.file i).safe ≤ (st.file i).b.length := HW.out.safe i
      have q0 : w2.cell? ⟨L.blk i, 0, none⟩ = some (.slice a (st.file i).b.length cap) := by simp [World.cell?, hfile]
      have q1 : w2.cell? ⟨L.blk i, 1, none⟩ = some (.int .i64 (st.file i).safe) := by simp [World.cell?, hfile]
      have q2 : w2.frozen? ⟨L.blk i, 0, none⟩ = false := by simp [World.frozen?, hfile]
      have q3 : w2.frozen? ⟨L.blk i, 1, none⟩ = false := by simp [World.frozen?, hfile]
      have HC2 : Aside0 (Collected (dirD L.blk st.safe) (fun z => left z && !z.sameKey (.string x)) (ks ++ [x])) := Aside0.mk (hC.step hlk hat)
      have HLT := Aside0.mk hlt
      have HR2 := Aside0.mk hrg2
      have HR := Aside0.mk hrg
      have HA2 := Aside0.mk hA2
      have HI := Aside0.mk hi
      have HU := Aside0.mk hu
      have HVI := Aside0.mk hvi
      have HFI := Aside0.mk hfi
      have HFILE := Aside0.mk hfile
      have HG2 := Aside0.mk hg2
      have HF1 := Aside0.mk hF1
      have HS := Aside0.mk (hs2.trans HS1.out)
      have HLE := Aside0.mk hle
      have hcm : cap ≤ 9223372036854775807 := hc2
      obtain ⟨lenF, hlf⟩ : ∃ k, (st.file i).b.length = k := ⟨_, rfl⟩
      obtain ⟨sf, hsf⟩ : ∃ k, (st.file i).safe = k := ⟨_, rfl⟩
      rw [hlf] at q0 hc1 hle
      rw [hsf] at q1 hle
      have HLF := Aside0.mk hlf
      have HSF := Aside0.mk hsf
      clear hs2 hC hlk hat hv hkey hg2 hlt hi hrg2 hrg hA2 hxl ex c2 howns hA1 hF1 hsame hus hu hnot hfi hvi hfile hc2 hlf hsf
      go_wp2_with (fail)
      refine crash_round HW.out HR2.out HA2.out HU.out HVI.out HFI.out HFILE.out HF1.out HG2.out HS.out HC2.out HI.out (HA.out.fpl) ?_ ?_
      · unfold crashF; rw [if_pos hk, HSF.out, HLF.out]; simp only; split <;> omega
      · intro h; rw [h.left_eq, HR.out.left_eq]; exact HLT.out
set_option maxRecDepth 100000 in
set_option maxHeartbeats 1000000 in
theorem crash_neg (h : At L st fp b w) (hw : Wf st) (keep : Int) (hk : keep ≤ 0) :
    Calls Try.prog 16 #[.pointer (some ⟨b, 0, none⟩), .int .i64 keep] w fun e w' => e = .returned (.tuple #[]) ∧ Nx (st.crash keep) fp b w w' := by
  have c2 : w.cell? ⟨b, 2, none⟩ = some (.map (some L.s)) := by simp [World.cell?, h.cells, DCells]
  have howns := h.sdir
  have HA := Aside0.mk h
  have HW := Aside0.mk hw
  clear h hw
  go_enter Try.func16, Try.ntmps16
  go_wp2_with (first | (at_range; refine wpList_range_own _ rfl _ 57 rfl 9 63 (string_keyed Try.underlying9) Try.underlying57 _ L.s st.safe.length _ rfl howns ?_; intro w0 hrg0 hg0 hs0) | fail)
  go_frame
  go_loopw [5, 6] (fun _ _ wr => ∃ (left : Lit → Bool) (cnt : Nat) (ks : List Bs) (v' : Nat → Value), wr.ranges Try.prog 9 Rf L.s w.heap.size st.safe.length (dirD L.blk st.safe) left cnt ∧ Collected (dirD L.blk st.safe) left ks ∧
      At { L with v := v' } (crashOn keep st (ks.map (atOf st.safe))) fp b wr ∧ Fr fp w wr ∧ wr.heap.size = w.heap.size + 1)
    (fun _ _ wr => wr.rangeLeft L.s w.heap.size)
  case atStart =>
    refine ⟨_, _, [], L.v, hrg0, Collected.start _, ?_, Fr.of_grownBy hg0 (fun k e => by cases e), hs0⟩
    exact HA.out.below ((Below.refl _ _).grown hg0 (Nat.le_refl _) (fun k e => by cases e))
  case round =>
    clear hrg0 hg0 hs0
    obtain ⟨left, cnt, ks, v', hrg, hC, hA1, hF1, hS1⟩ := hrel
    have HS1 := Aside0.mk hS1
    clear hS1
    go_wp2_with (first
      | (at_next; refine wpList_next_ranges _ rfl _ rfl 9 (string_keyed Try.underlying9) Rf encStr id (fun key kl hk => by obtain ⟨x, hx, _⟩ := Maps.keyOf_str Try.underlying9 hk; exact ⟨x, hx⟩) (fun v y _ => ⟨v, rfl⟩) L.s w.heap.size st.safe.length _ _ _ rfl hrg ?_ ?_)
      | fail)
    · intro hc0 hl0
      have hA := HA.out
      have hks : ∀ i, i ∈ st.safe.map (·.2) → (crashOn keep st (ks.map (atOf st.safe))).file i = crashF keep (st.file i) := by
        intro i hi
        have hp := hC.perm howns (string_keyed Try.underlying9) Try.underlying9 hl0
        rw [strKeys_dirD] at hp
        have hp2 : (ks.map (atOf st.safe)).Perm (st.safe.map (·.2)) := by
          refine (hp.map _).trans (List.Perm.of_eq ?_)
          rw [List.map_map]
          refine List.map_congr_left fun p hp => ?_
          simp only [Function.comp, atOf, find_of_mem HW.out.sdir.names (show (p.1, p.2) ∈ st.safe from hp)]
        refine crashOn_in keep _ _ _ (hp2.nodup_iff.2 HW.out.sdir.ats) (hp2.mem_iff.2 hi) ?_
        obtain ⟨p, hp, rfl⟩ := List.mem_map.1 hi
        exact HW.out.sdir.lt p hp
      have hsame := crashOn_same keep (ks.map (atOf st.safe)) st
      have hcells := hA1.cells
      rw [hsame.1, hsame.2.2.2.2.1, hsame.2.2.2.2.2.1, hsame.2.2.2.2.2.2] at hcells
      have k2 : wr.cell? ⟨b, 2, none⟩ = some (.map (some L.s)) := by simp [World.cell?, hcells, DCells]
      have hsd := hA1.sdir
      rw [hsame.2.2.1] at hsd
      have HA1 := Aside0.mk hA1
      have HF1 := Aside0.mk hF1
      have HKS := Aside0.mk hks
      have HCELLS := Aside0.mk hcells
      have HSAME := Aside0.mk hsame
      have HSD := Aside0.mk hsd
      clear hc0 hl0 hrg hC hA hA1 hks hF1 hcells hsame hsd c2 howns
      go_wp2_with (fail)
      refine (clone_calls L.s st.safe.length _ wr HSD.out).mono ?_
      rintro e w3 ⟨rfl, hm1, hm2, hB3⟩
      have hc3 : w3.heap[b]? = some (DCells st.room (.map (some L.m)) (.map (some L.s)) st.failing st.left st.torn) := (hB3.block b HA1.out.lt_b).trans HCELLS.out
      have q1 : w3.cell? ⟨b, 1, none⟩ = some (.map (some L.m)) := by simp [World.cell?, hc3, DCells]
      have q3 : w3.cell? ⟨b, 3, none⟩ = some (.bool st.failing) := by simp [World.cell?, hc3, DCells]
      have q5 : w3.cell? ⟨b, 5, none⟩ = some (.bool st.torn) := by simp [World.cell?, hc3, DCells]
      have f1 : w3.frozen? ⟨b, 1, none⟩ = false := by simp [World.frozen?, hc3, DCells]
      have f3 : w3.frozen? ⟨b, 3, none⟩ = false := by simp [World.frozen?, hc3, DCells]
      have f5 : w3.frozen? ⟨b, 5, none⟩ = false := by simp [World.frozen?, hc3, DCells]
      have HM1 := Aside0.mk hm1
      have HM2 := Aside0.mk hm2
      have HB3 := Aside0.mk hB3
      have HC3 := Aside0.mk hc3
      clear hm1 hm2 hB3 hc3
      go_wp2_with (fail)
      go_end0
      obtain ⟨w4, hw4⟩ : ∃ w4, ((w3.setCell ⟨b, 1, none⟩ (.map (some wr.heap.size))).setCell ⟨b, 3, none⟩ (.bool false)).setCell ⟨b, 5, none⟩ (.bool false) = w4 := ⟨_, rfl⟩
      have hs4 : w4.heap.size = w3.heap.size := by rw [← hw4]; simp
      have hg4 : w3.grownBy w4 (some b) := by
        rw [← hw4]
        refine ⟨rfl, rfl, rfl, by simp, fun k hk hne => ?_⟩
        have hkb : k ≠ b := fun e => hne (by rw [e])
        exact ((Below.heap_setCell _ _ _ k hkb).trans (Below.heap_setCell _ _ _ k hkb)).trans (Below.heap_setCell _ _ _ k hkb)
      have hc4 : w4.heap[b]? = some (DCells st.room (.map (some wr.heap.size)) (.map (some L.s)) false st.left false) := by
        rw [← hw4]
        simp [World.setCell, Array.getElem?_modify, HC3.out, DCells]
      refine ⟨rfl, ?_⟩
      show Nx (st.crash keep) fp b w (((w3.setCell ⟨b, 1, none⟩ (.map (some wr.heap.size))).setCell ⟨b, 3, none⟩ (.bool false)).setCell ⟨b, 5, none⟩ (.bool false))
      rw [hw4]
      have hA1 := HA1.out
      have hF1 := HF1.out
      have hB3 := HB3.out
      have hkeep : ∀ k, fp k → k ≠ b → w4.heap[k]? = wr.heap[k]? := fun k hk hkb => (hg4.block k (by have := hA1.fpl k hk; have := hB3.size; omega) (fun e => hkb (Option.some.inj e))).trans (hB3.block k (hA1.fpl k hk))
      have hu : ∀ i, (st.crash keep).used i → (crashOn keep st (ks.map (atOf st.safe))).used i := fun i hi => by
        unfold St.used
        rw [HSAME.out.2.2.1]
        exact .inr (hi.elim id id)
      have hus : ∀ i, (st.crash keep).used i → i ∈ st.safe.map (·.2) := fun i hi => hi.elim id id
      have hfile : ∀ i, (st.crash keep).used i → (st.crash keep).file i = (crashOn keep st (ks.map (atOf st.safe))).file i := fun i hi => by
        rw [HKS.out i (hus i hi)]
        obtain ⟨p, hp, rfl⟩ := List.mem_map.1 (hus i hi)
        have hlt := HW.out.sdir.lt p hp
        simp [St.crash, St.file, List.getElem?_map, List.getElem?_eq_getElem hlt]
      have hwl : wr.heap.size < w4.heap.size := by have := HM1.out.lt; omega
      refine ⟨⟨⟨wr.heap.size, L.s, L.blk, v'⟩, ?_⟩, (hF1.trans (Fr.of_below (fp := fp) hB3) (fun _ _ h => h)).trans (Fr.of_grownBy hg4 (fun k e => by cases e; exact hA1.fpb)) (fun _ _ h => h)⟩
      have hsw := hF1.size
      exact { cells := hc4
              dir := HM1.out.kept hg4 (fun e => by have := hA1.lt_b; have := Option.some.inj e; omega)
              sdir := HM2.out.kept hg4 (fun e => hA1.bs (Option.some.inj e))
              ms := fun e => by have := HSD.out.lt; simp only at e; omega
              file := fun i hi => by rw [hfile i hi]; exact (hkeep _ (hA1.fpf i (hu i hi)) (hA1.bf (hu i hi))).trans (hA1.file i (hu i hi))
              row := fun i hi => by rw [hfile i hi]; exact (hA1.row i (hu i hi)).heap fun g hg' => hkeep g (hA1.fpr i (hu i hi) g hg') (hA1.br (hu i hi) hg')
              inj := fun i j hi hj => hA1.inj i j (hu i hi) (hu j hj)
              sep := fun i j hi hj => hA1.sep i j (hu i hi) (hu j hj)
              fpb := .inl hA1.fpb
              fpm := .inr ⟨hsw, hwl⟩
              fps := .inl hA1.fps
              fpf := fun i hi => .inl (hA1.fpf i (hu i hi))
              fpr := fun i hi g hg' => .inl (hA1.fpr i (hu i hi) g hg')
              fpl := fun k hk' => hk'.elim (fun e => by have := hA1.fpl k e; omega) (fun e => e.2) }
    · intro x c kl yd yp w2 cnt2 hkey hlk hv hat hrg2 hlt hg2 hs2 hen
      obtain ⟨x', ex, rfl, hxl⟩ := Maps.keyOf_str Try.underlying9 hkey
      obtain rfl : x = x' := encStr_inj ex
      obtain ⟨i, hi, rfl⟩ := entry_of hv hat
      have hsame := crashOn_same keep (ks.map (atOf st.safe)) st
      have hus : st.used i := .inr (List.mem_map.2 ⟨_, find_some hi, rfl⟩)
      have hu : (crashOn keep st (ks.map (atOf st.safe))).used i := by unfold St.used; rw [hsame.2.1, hsame.2.2.1]; exact hus
      have hnot : i ∉ ks.map (atOf st.safe) := fun hm => by
        obtain ⟨k, hk, hki⟩ := List.mem_map.1 hm
        have hkk := (hC.2 k).1 hk
        have hne : k ≠ x := fun e => by subst e; rw [hlk] at hkk; cases hkk.2
        cases hfk : find st.safe k with
        | none =>
          have hh := hkk.1
          simp only [dirD, has_eq] at hh
          obtain ⟨p, hp, hpk⟩ := List.any_eq_true.1 hh
          obtain ⟨q, hq, rfl⟩ := List.mem_map.1 hp
          have e : q.1 = k := by simpa [Lit.sameKey] using hpk
          exact find_none hfk q.2 (e ▸ hq)
        | some j =>
          simp only [atOf, hfk] at hki
          subst hki
          exact hne (name_at HW.out.sdir.ats (find_some hfk) (find_some hi))
      have hfi : (crashOn keep st (ks.map (atOf st.safe))).file i = st.file i := crashOn_other keep _ _ _ hnot
      have hA2 : At { L with v := v' } (crashOn keep st (ks.map (atOf st.safe))) fp b w2 := hA1.keep hg2.size fun k hk => hg2.block k (by have := hA1.fpl k hk; omega) (fun e => by have := HA.out.fpl k hk; cases e; omega)
      obtain ⟨a, cap, hvi, hc1, hc2⟩ := (hA2.row i hu).form
      have hfile := hA2.file i hu
      simp only at hvi hfile
      rw [hfi] at hvi hc1 hfile
      rw [hvi] at hfile
      have hle : (st.file i).safe ≤ (st.file i).b.length := HW.out.safe i
      have q0 : w2.cell? ⟨L.blk i, 0, none⟩ = some (.slice a (st.file i).b.length cap) := by simp [World.cell?, hfile]
      have q1 : w2.cell? ⟨L.blk i, 1, none⟩ = some (.int .i64 (st.file i).safe) := by simp [World.cell?, hfile]
      have q2 : w2.frozen? ⟨L.blk i, 0, none⟩ = false := by simp [World.frozen?, hfile]
      have q3 : w2.frozen? ⟨L.blk i, 1, none⟩ = false := by simp [World.frozen?, hfile]
      have HC2 : Aside0 (Collected (dirD L.blk st.safe) (fun z => left z && !z.sameKey (.string x)) (ks ++ [x])) := Aside0.mk (hC.step hlk hat)
      have HLT := Aside0.mk hlt
      have HR2 := Aside0.mk hrg2
      have HR := Aside0.mk hrg
      have HA2 := Aside0.mk hA2
      have HI := Aside0.mk hi
      have HU := Aside0.mk hu
      have HVI := Aside0.mk hvi
      have HFI := Aside0.mk hfi
      have HFILE := Aside0.mk hfile
      have HG2 := Aside0.mk hg2
      have HF1 := Aside0.mk hF1
      have HS := Aside0.mk (hs2.trans HS1.out)
      have HLE := Aside0.mk hle
      have hcm : cap ≤ 9223372036854775807 := hc2
      obtain ⟨lenF, hlf⟩ : ∃ k, (st.file i).b.length = k := ⟨_, rfl⟩
      obtain ⟨sf, hsf⟩ : ∃ k, (st.file i).safe = k := ⟨_, rfl⟩
      rw [hlf] at q0 hc1 hle
      rw [hsf] at q1 hle
      have HLF := Aside0.mk hlf
      have HSF := Aside0.mk hsf
      clear hs2 hC hlk hat hv hkey hg2 hlt hi hrg2 hrg hA2 hxl ex c2 howns hA1 hF1 hsame hus hu hnot hfi hvi hfile hc2 hlf hsf
      go_wp2_with (fail)
      refine crash_roundK HW.out HR2.out HA2.out HU.out HVI.out HFI.out HFILE.out HF1.out HG2.out HS.out HC2.out HI.out (HA.out.fpl) ?_ ?_
      · unfold crashF; rw [if_neg (by omega), HSF.out]
      · intro h; rw [h.left_eq, HR.out.left_eq]; exact HLT.out
theorem crash_at (h : At L st fp b w) (hw : Wf st) (keep : Int) :
    Calls Try.prog 16 #[.pointer (some ⟨b, 0, none⟩), .int .i64 keep] w fun e w' => e = .returned (.tuple #[]) ∧ Nx (st.crash keep) fp b w w' := by
  by_cases hk : 0 < keep
  · exact crash_pos h hw keep hk
  · exact crash_neg h hw keep (by omega)
end
end Go.Proofs.Ytcaipccgphblnaa.Dk
