/- disk: Cut. -/
import Derived.Test.YtcaipccgphblnaaSwaps
import Derived.StillTailTactics
import Derived.BigQuiet
namespace Go.Proofs.Ytcaipccgphblnaa.Dk
open Go.RowKit Go.WideMaps Go.Proofs.YtcaipccgphblnaaW.PrintWords
set_option linter.unusedSimpArgs false
theorem cut_bad (f x : Nat) (a : Option Addr) (len cap : Nat) (s k : Int) (w : World) (hf : w.heap[f]? = some (.cells #[.slice a len cap, .int .i64 s] 65 (0, 0))) (hx : w.cell? ⟨x, 0, none⟩ = some (.int .i64 k)) (hk : k < 0 ∨ (len : Int) < k) :
    Calls Try.prog 52 #[.pointer (some ⟨f, 0, none⟩), .pointer (some ⟨x, 0, none⟩)] w fun e w' => e = .returned (.int .i64 2) ∧ Below w.heap.size w w' := by
  have c0 : w.cell? ⟨f, 0, none⟩ = some (.slice a len cap) := by simp [World.cell?, hf]
  clear hf
  by_cases h0 : k < 0
  · have d0 : decide (k < 0) = true := by simp [h0]
    clear hk h0
    go_enter Try.func52, Try.ntmps52
    go_wp2_with (fail)
    go_quiet (fail)
    go_wp2_with (fail)
    go_ret
    exact ⟨rfl, below_drewN (Below.refl _ _) _⟩
  · have d0 : decide (k < 0) = false := by simp; omega
    have d1 : decide ((len : Int) < k) = true := by simp; omega
    clear hk h0
    go_enter Try.func52, Try.ntmps52
    go_wp2_with (fail)
    go_quiet (fail)
    go_wp2_with (fail)
    go_ret
    exact ⟨rfl, below_drewN (Below.refl _ _) _⟩
set_option maxRecDepth 100000 in
theorem cut_good (f x : Nat) (v : Value) (xs : Bs) (s m : Nat) (w : World) (hr : Row w v xs) (hf : w.heap[f]? = some (.cells #[v, .int .i64 s] 65 (0, 0))) (hx : w.cell? ⟨x, 0, none⟩ = some (.int .i64 m)) (hxf : x ≠ f) (hm : m ≤ xs.length) (hl : xs.length ≤ 140737488355328) :
    Calls Try.prog 52 #[.pointer (some ⟨f, 0, none⟩), .pointer (some ⟨x, 0, none⟩)] w fun e w' => e = .returned (.int .i64 0) ∧ ∃ v', w'.heap[f]? = some (.cells #[v', .int .i64 (min s m : Nat)] 65 (0, 0)) ∧ Row w' v' (xs.take m) ∧ (∀ g, v'.ownBlock = some g → w.heap.size ≤ g) ∧ w.grownBy w' (some f) := by
  obtain ⟨a, cap, hv, l1, l2⟩ := hr.form
  subst hv
  have c0 : w.cell? ⟨f, 0, none⟩ = some (.slice a xs.length cap) := by simp [World.cell?, hf]
  have c1 : w.cell? ⟨f, 1, none⟩ = some (.int .i64 s) := by simp [World.cell?, hf]
  have d0 : decide ((m : Int) < 0) = false := by simp
  have d1 : decide ((xs.length : Int) < m) = false := by simp; omega
  have i1 : (m : Int) ≤ xs.length := by omega
  have i2 : (m : Int) ≤ cap := by omega
  have HF := Aside0.mk hf
  have HS := Aside0.mk (hr.src.take m hm)
  have HXF := Aside0.mk hxf
  have HM := Aside0.mk hm
  have HL := Aside0.mk hl
  clear hf hr l1 l2 hm hl
  go_enter Try.func52, Try.ntmps52
  go_wp2_with (fail)
  go_quiet (fail)
  obtain ⟨W1, hW1⟩ : ∃ W1, w.drewN nq = W1 := ⟨_, rfl⟩
  rw [hW1]
  have q0 : W1.cell? ⟨f, 0, none⟩ = some (.slice a xs.length cap) := by rw [← hW1]; exact c0
  have q1 : W1.cell? ⟨f, 1, none⟩ = some (.int .i64 s) := by rw [← hW1]; exact c1
  have qx : W1.cell? ⟨x, 0, none⟩ = some (.int .i64 m) := by rw [← hW1]; exact hx
  have HB1 := Aside0.mk (show Below w.heap.size w W1 by rw [← hW1]; exact below_drewN (Below.refl _ _) _)
  have HS1 := Aside0.mk (show W1.heap.size = w.heap.size by rw [← hW1]; rfl)
  have HF1 := Aside0.mk (show W1.heap[f]? = some (.cells #[.slice a xs.length cap, .int .i64 s] 65 (0, 0)) by rw [← hW1]; exact HF.out)
  clear c0 c1 hx hW1
  go_wp2_with (fail)
  have HC := Aside0.mk (clone_bytes (.slice a m cap) (xs.take m) W1.drew (Src.below HS.out (HB1.out.trans (show Below w.heap.size W1 W1.drew from ⟨rfl, rfl, rfl, Nat.le_refl _, fun _ _ => rfl⟩))) (by have := HL.out; rw [List.length_take]; omega))
  have HLM := Aside0.mk (show (xs.take m).length = m by have := HM.out; rw [List.length_take]; omega)
  have HXL := Aside0.mk (show x < W1.drew.heap.size from World.block_lt_of_cell? W1 _ qx)
  have z1 : W1.frozen? ⟨f, 0, none⟩ = false := by simp [World.frozen?, HF1.out]
  have HFL := Aside0.mk (show f < W1.drew.heap.size from (Array.getElem?_eq_some_iff.1 HF1.out).1)
  go_region_with (go_at_call 32; refine HC.out.mono ?_; rintro e w2 ⟨v2, rfl, hr2, hv2, hb2⟩; obtain ⟨a2, cap2, hv3, _, _⟩ := hr2.form; rw [HLM.out] at hv3; subst hv3; have p0 : w2.cell? ⟨f, 0, none⟩ = some (.slice a xs.length cap) := (World.cell?_of_block (hb2.block f HFL.out)).trans q0; have p2 : w2.frozen? ⟨f, 0, none⟩ = false := (by rw [World.frozen?_of_block (hb2.block f HFL.out)]; exact z1); have hxe : w2.cell? ⟨x, 0, none⟩ = some (.int .i64 m) := (World.cell?_of_block (hb2.block x HXL.out)).trans qx; have HR2 := Aside0.mk hr2; have HV2 := Aside0.mk hv2; have HB2 := Aside0.mk hb2; clear hr2 hv2 hb2)
  all_goals
    have hf2 : w2.heap[f]? = some (.cells #[.slice a xs.length cap, .int .i64 s] 65 (0, 0)) := (HB2.out.block f HFL.out).trans HF1.out
    obtain ⟨w3, hw3⟩ : ∃ w3, w2.setCell ⟨f, 0, none⟩ (.slice a2 m cap2) = w3 := ⟨_, rfl⟩
    rw [hw3]
    have hf3 : w3.heap[f]? = some (.cells #[.slice a2 m cap2, .int .i64 s] 65 (0, 0)) := by rw [← hw3]; simp [World.setCell, Array.getElem?_modify, hf2]
    have t1 : w3.cell? ⟨f, 1, none⟩ = some (.int .i64 s) := by simp [World.cell?, hf3]
    have t2 : w3.frozen? ⟨f, 1, none⟩ = false := by simp [World.frozen?, hf3]
    have tx : w3.cell? ⟨x, 0, none⟩ = some (.int .i64 m) := by rw [← hw3]; exact (World.cell?_of_block (Below.heap_setCell w2 _ _ x HXF.out)).trans hxe
    have HF3 := Aside0.mk hf3
    have HW3 := Aside0.mk hw3
    clear hf2 hf3 hw3 p0 p2 hxe
    go_wp2_with (fail)
    go_still_tail 9, (by kernel_rfl)
    change wpList _ _ _ _ _ w3.drew
    go_wp2_with (fail)
    all_goals
      go_ret
      have hne : ∀ (u : Value) (k : Nat), k ≠ f → (w3.setCell ⟨f, 1, none⟩ u).heap[k]? = w2.heap[k]? := fun u k hk => by
        refine (Below.heap_setCell w3 _ _ k hk).trans ?_
        rw [← HW3.out]
        exact Below.heap_setCell w2 _ _ k hk
      have hs3 : w3.heap.size = w2.heap.size := by rw [← HW3.out]; simp
      have hs2 := HB2.out.size
      have hs1 : W1.drew.heap.size = w.heap.size := HS1.out
      have hfl := HFL.out
      refine ⟨rfl, .slice a2 m cap2, ?_, ?_, ?_, ?_⟩
      · first
        | (have e : min s m = s := by omega
           rw [e]; show (w3.setCell ⟨f, 1, none⟩ _).heap[f]? = _; simp [World.setCell, Array.getElem?_modify, HF3.out])
        | (have e : min s m = m := by omega
           rw [e]; show (w3.setCell ⟨f, 1, none⟩ _).heap[f]? = _; simp [World.setCell, Array.getElem?_modify, HF3.out])
      · exact HR2.out.heap fun g hg => hne _ g (fun e => by have := HV2.out g hg; omega)
      · exact fun g hg => by have := HV2.out g hg; omega
      · have h1 := HB2.out
        have h2 := HB1.out
        have o3 : w3.os = w2.os ∧ w3.tape = w2.tape ∧ w3.output = w2.output := by rw [← HW3.out]; exact ⟨rfl, rfl, rfl⟩
        refine ⟨o3.1.trans (h1.os.trans h2.os), o3.2.1.trans (h1.tape.trans h2.tape), o3.2.2.trans (h1.output.trans h2.output), ?_, fun k hk hk' => ?_⟩
        · show w.heap.size ≤ (w3.setCell _ _).heap.size
          simp; omega
        · exact (hne _ k (fun e => hk' (by rw [e]))).trans ((h1.block k (by omega)).trans (h2.block k hk))
section
variable {L : Lay} {st : St} {fp : Nat → Prop} {b : Nat} {w : World}
theorem cut_wrap (r : Int) (R : World → Prop) (n : ByteArray) (k : Int) (H : Calls Try.prog 28 #[.pointer (some ⟨b, 0, none⟩), .string n, .func (.func 52) #[] #[.pointer (some ⟨w.heap.size, 0, none⟩)]]
      (w.alloc (.cells #[.int .i64 k] 3)) fun e w' => e = .returned (.int .i64 r) ∧ R w') :
    Calls Try.prog 35 #[.pointer (some ⟨b, 0, none⟩), .string n, .int .i64 k] w fun e w' => e = .returned (.int .i64 r) ∧ R w' := by
  have H := Aside0.mk H
  go_enter Try.func35, Try.ntmps35
  go_wp2_with (fail)
  refine H.out.mono ?_
  rintro e w2 ⟨rfl, h1⟩
  have H1 := Aside0.mk h1
  clear h1
  go_wp2_with (fail)
  go_ret
  exact ⟨rfl, H1.out⟩
theorem cut_at (h : At L st fp b w) (hw : Wf st) (n : ByteArray) (hn : n.size ≤ maxLen) (k : Int) (hle : ∀ i, st.used i → st.len i ≤ 140737488355328) :
    Calls Try.prog 35 #[.pointer (some ⟨b, 0, none⟩), .string n, .int .i64 k] w fun e w' => e = .returned (.int .i64 (st.cut n.data.toList k).1) ∧ Nx (st.cut n.data.toList k).2 fp b w w' := by
  obtain ⟨wb, hwb⟩ : ∃ wb, w.alloc (.cells #[.int .i64 k] 3) = wb := ⟨_, rfl⟩
  have hb2 : Below w.heap.size w wb := by rw [← hwb]; exact (Below.refl _ _).alloc (Nat.le_refl _) _
  have hA := h.below hb2
  have hs : wb.heap.size = w.heap.size + 1 := by rw [← hwb]; simp
  have cx : wb.cell? ⟨w.heap.size, 0, none⟩ = some (.int .i64 k) := by rw [← hwb]; simp
  have up : ∀ {st' : St} {w' : World}, Nx st' fp b wb w' → Nx st' fp b w w' := fun hx => nx_below hb2 hx
  refine cut_wrap _ _ n k ?_
  rw [hwb]
  by_cases hok : st.ok = false
  · have hs : st.cut n.data.toList k = (171, st.may) := by simp [St.cut, hok]
    rw [hs]
    exact (call_at_torn hA hw hok n _).mono fun _ _ ⟨he, hx⟩ => ⟨he, up hx⟩
  · have hok : st.ok = true := by simpa using hok
    cases hf : find st.dir n.data.toList with
    | none =>
      have hs : st.cut n.data.toList k = (172, st.may) := by simp [St.cut, hok, hf]
      rw [hs]
      exact (call_at_none hA hw hok n hn hf _).mono fun _ _ ⟨he, hx⟩ => ⟨he, up hx⟩
    | some i =>
      have hi := used_of_find hf
      have hlt := h.fpl
      have hnb : ∀ k, w.heap.size ≤ k → k ≠ b := fun k hk e => by have := hlt _ h.fpb; omega
      by_cases hk : k < 0 ∨ (st.len i : Int) < k
      · have hst : st.cut n.data.toList k = (2, st.may) := by simp [St.cut, hok, hf, hk]
        rw [hst]
        refine call_at_found hA hw hok n hn i hf 52 _ (enters_of Try.func52 (by kernel_rfl) rfl) _ ?_
        intro w1 h1 hb
        obtain ⟨a, cap, hv, hc1, hc2⟩ := (h1.row i hi).form
        have hfile := h1.file i hi
        rw [hv] at hfile
        refine (cut_bad (L.blk i) w.heap.size a _ cap _ k w1 hfile ((World.cell?_of_block (hb.block w.heap.size (hnb _ (Nat.le_refl _)))).trans cx) hk).mono ?_
        rintro e w2 ⟨rfl, k1⟩
        exact ⟨⟨2, rfl⟩, rfl, up (nx_trans (Fr.of_but hb hA.fpb) ⟨⟨L, ((h1.nf (w0 := wb) (Nat.le_of_eq hb.size.symm) hA.fpl).below k1).nf k1.size (fun q hq => hq.elim (h1.fpl q) (fun e => e.2))⟩, Fr.of_below k1⟩)⟩
      · have hst : st.cut n.data.toList k = (0, st.may.upd i ⟨(st.file i).b.take k.toNat, min (st.file i).safe k.toNat⟩) := by simp [St.cut, hok, hf, hk]
        rw [hst]
        obtain ⟨m, rfl⟩ : ∃ m : Nat, k = m := ⟨k.toNat, by omega⟩
        have hm : m ≤ (st.file i).b.length := by unfold St.len at hk; omega
        rw [Int.toNat_natCast]
        refine call_at_found hA hw hok n hn i hf 52 _ (enters_of Try.func52 (by kernel_rfl) rfl) _ ?_
        intro w1 h1 hb
        have hxf : w.heap.size ≠ L.blk i := fun e => by have := hlt _ (h.fpf i hi); omega
        refine (cut_good (L.blk i) w.heap.size (L.v i) (st.file i).b (st.file i).safe m w1 (h1.row i hi) (h1.file i hi) ((World.cell?_of_block (hb.block w.heap.size (hnb _ (Nat.le_refl _)))).trans cx) hxf hm (hle i hi)).mono ?_
        rintro e w2 ⟨rfl, v', k1, k2, k3, k4⟩
        exact ⟨⟨0, rfl⟩, rfl, up (nx_trans (Fr.of_but hb hA.fpb) ⟨⟨_, (h1.nf (w0 := wb) (Nat.le_of_eq hb.size.symm) hA.fpl).updF hi (file_lt hw hi) (f := ⟨(st.file i).b.take m, min (st.file i).safe m⟩) (v' := v') k4.size (.inr k3) (fun q hq hq' _ => k4.block q hq (fun e => hq' (Option.some.inj e))) k1 k2⟩, Fr.of_grownBy k4 (fun q e => by cases e; exact .inl (h1.fpf i hi))⟩)⟩
end
end Go.Proofs.Ytcaipccgphblnaa.Dk
