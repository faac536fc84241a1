/- disk: the document's lay. -/
import Derived.Test.YtcaipccgphblnaaRefCut
namespace Go.Proofs.Ytcaipccgphblnaa.Dk
open Go.RowKit Go.WideMaps Go.Proofs.YtcaipccgphblnaaW.PrintWords
set_option linter.unusedSimpArgs false
/-- Bytes that lie in no block of the disk's. -/
def Off (fp : Nat → Prop) (v : Value) : Prop := ∀ a n k, v = .slice (some a) n k → n ≠ 0 → ¬ fp a.block
theorem Src.fr {w w' : World} {fp : Nat → Prop} {v : Value} {ys : Bs} (h : Src w v ys) (hf : Fr fp w w') (ho : Off fp v) : Src w' v ys := by
  rcases h with h | ⟨a, cap, rfl, hcp, hc⟩
  · exact .inl h
  · refine .inr ⟨a, cap, rfl, hcp, fun j c hj => (World.cell?_of_block (hf.block _ (World.block_lt_of_cell? w _ (hc j c hj)) ?_)).trans (hc j c hj)⟩
    rw [add_block]
    exact ho a _ _ rfl (fun e => by rw [List.eq_nil_of_length_eq_zero e] at hj; cases hj)
section
variable {R : RLay} {st : St} {fp : Nat → Prop} {b : Nat} {w : World}
set_option maxRecDepth 100000 in
set_option maxHeartbeats 1000000 in
theorem rlay_found (h : RAt R st fp b w) (n : ByteArray) (x : Value) (ys : Bs) (hx : Src w x ys) {i : Nat} (hf : find st.dir n.data.toList = some i) (hi : i < st.files.length) (hl : st.dir.length ≤ 1000000) (hfl : st.len i + ys.length ≤ 140737488355328) :
    Calls Try.prog 51 #[.pointer (some ⟨b, 0, none⟩), .string n, x] w fun e w' => e = .returned (.tuple #[]) ∧ RNx (st.lay n.data.toList ys) fp b w w' := by
  have hs : st.lay n.data.toList ys = st.upd i ⟨(st.file i).b ++ ys, (st.file i).safe⟩ := by simp [St.lay, hf]
  rw [hs]
  have c2 : w.cell? ⟨b, 2, none⟩ = some R.dv := by simp [World.cell?, h.cells, RCells]
  have HFI := Aside0.mk (findI_some hf)
  have d0 : decide ((i : Int) < 0) = false := by simp
  have HC := Aside0.mk (find_calls R.dv st.dir n w h.dir (by omega))
  obtain ⟨xa, xc, rfl⟩ := hx.form
  have HX := Aside0.mk hx
  have H := Aside0.mk h
  have HI := Aside0.mk hi
  have HFL := Aside0.mk hfl
  have i1 : (i : Int) < st.files.length := by omega
  clear h hs hf hi hl hfl hx
  go_enter Try.func51, Try.ntmps51
  go_wp2_with (fail)
  refine HC.out.mono ?_
  rintro e w2 ⟨rfl, hb2⟩
  rw [HFI.out]
  have hA2 := H.out.below hb2
  have HX2 := Aside0.mk (Src.below HX.out hb2)
  have HB2 := Aside0.mk hb2
  obtain ⟨g, cap, ra, rcap, hfv, hrv, l1, l2, m1, m2, k0, k1, k2, z1, z2⟩ := RAt.fileAt hA2 (i := i) HI.out
  have hlen : (st.file i).b.length + ys.length ≤ 140737488355328 := HFL.out
  have hrow := (hA2.row i HI.out)
  rw [hrv] at hrow
  obtain ⟨v3, w3, hrun, hr3, hg3, ha3⟩ := brow_append 29 w2.drew (.slice ra (st.file i).b.length rcap) (.slice xa ys.length xc) (st.file i).b ys (BRow.heap hrow fun _ _ => rfl) (Src.below HX2.out (Below.refl _ _).drew) hlen
  obtain ⟨va, vc, hv3, _⟩ := hr3.form
  rw [List.length_append] at hv3
  subst hv3
  have hown : (Value.slice va ((st.file i).b.length + ys.length) vc).ownBlock = (R.v i).ownBlock ∨ ∀ q, (Value.slice va ((st.file i).b.length + ys.length) vc).ownBlock = some q → w2.heap.size ≤ q := by
    rcases ha3 with e | e
    · exact .inl (by rw [e, hrv])
    · refine .inr fun q hq => ?_
      rw [e] at hq; cases hq; exact Nat.le_refl _
  have hgr : w2.grownBy w3 (R.v i).ownBlock := by rw [hrv]; exact grown_drew hg3
  have hX := hA2.setB (i := i) HI.out (g := g) (by rw [hfv]; rfl) (v' := .slice va ((st.file i).b.length + ys.length) vc) (bs := (st.file i).b ++ ys) hgr hr3 hown
  have hbl : b < w2.heap.size := hA2.lt_b
  have hgl : g < w2.heap.size := hA2.files.lt (by rw [hfv]; rfl)
  have hbq : some b ≠ (R.v i).ownBlock := fun e => hA2.br HI.out e.symm rfl
  have hgq : some g ≠ (R.v i).ownBlock := fun e => hA2.fr HI.out e.symm (by rw [hfv]; rfl)
  have p0 : w3.cell? ⟨b, 1, none⟩ = some (.slice (some ⟨g, 0, none⟩) st.files.length cap) := (World.cell?_of_block (hgr.block b hbl hbq)).trans k0
  have p1 : w3.cell? ⟨g, i * 2, none⟩ = some (.slice ra (st.file i).b.length rcap) := (World.cell?_of_block (hgr.block g hgl hgq)).trans k1
  have p2 : w3.frozen? ⟨g, i * 2, none⟩ = false := by rw [World.frozen?_of_block (hgr.block g hgl hgq)]; exact z1
  have HRUN := Aside0.mk hrun
  have HX3 := Aside0.mk hX
  clear hrun hX hrow hfv hrv l1 l2 m1 m2 k2 z2 hlen hr3 hg3 ha3 hown hgr hbl hgl hbq hgq hA2 hb2
  go_wp2_with (fail)
  apply wp_to
  case h =>
    go_region_law (refine step_append_run rfl _ _ 29 rfl _ _ _ _ rfl rfl HRUN.out ?_)
    all_goals exact ⟨rfl, rfl⟩
  clear k0 k1 p0 p1 p2 z1
  go_wp2_with (fail)
  go_end0
  exact ⟨rfl, rnx_fr (Fr.of_below (fp := fp) HB2.out) (rnx_of HX3.out)⟩
set_option maxRecDepth 100000 in
set_option maxHeartbeats 1000000 in
theorem rlay_none (h : RAt R st fp b w) (n : ByteArray) (x : Value) (ys : Bs) (hx : Src w x ys) (ho : Off fp x) (hf : find st.dir n.data.toList = none) (hl : st.dir.length ≤ 1000000) (hfl : st.files.length ≤ 1000000) (hy : ys.length ≤ 140737488355328) :
    Calls Try.prog 51 #[.pointer (some ⟨b, 0, none⟩), .string n, x] w fun e w' => e = .returned (.tuple #[]) ∧ RNx (st.lay n.data.toList ys) fp b w w' := by
  have hs : st.lay n.data.toList ys = { st with files := st.files ++ [⟨ys, 0⟩], dir := put st.dir n.data.toList st.files.length } := by simp [St.lay, hf]
  rw [hs]
  have c2 : w.cell? ⟨b, 2, none⟩ = some R.dv := by simp [World.cell?, h.cells, RCells]
  have HFI := Aside0.mk (findI_none hf)
  have HC := Aside0.mk (find_calls R.dv st.dir n w h.dir (by omega))
  obtain ⟨xa, xc, rfl⟩ := hx.form
  obtain ⟨fa, fcap, hfv0, _, _⟩ := h.files.form
  rw [filed_length _ _ h.len] at hfv0
  have HFV0 := Aside0.mk hfv0
  have HX := Aside0.mk hx
  have H := Aside0.mk h
  have HOFF := Aside0.mk ho
  have HFL := Aside0.mk hfl
  have HL := Aside0.mk hl
  have HY := Aside0.mk hy
  clear h hs hf hl hfl hx hy hfv0 ho
  go_enter Try.func51, Try.ntmps51
  go_wp2_with (fail)
  refine HC.out.mono ?_
  rintro e w2 ⟨rfl, hb2⟩
  rw [HFI.out]
  have hA2 := H.out.below hb2
  have HX2 := Aside0.mk (Src.below HX.out hb2)
  have HB2 := Aside0.mk hb2
  have k0 : w2.cell? ⟨b, 1, none⟩ = some (.slice fa st.files.length fcap) := by rw [← HFV0.out]; simp [World.cell?, hA2.cells, RCells]
  have hb3 : Below w2.heap.size w2 (w2.alloc (.cells #[.slice none 0 0, .int .i64 0] 87)) := (Below.refl _ _).alloc (Nat.le_refl _) _
  have hrow : SRow (w2.alloc (.cells #[.slice none 0 0, .int .i64 0] 87)) 87 (.slice fa st.files.length fcap) (filed R.vs st.files) := by rw [← HFV0.out]; exact (hA2.below hb3).files
  obtain ⟨v4, w4, hrun4, hr4, hg4, ha4⟩ := files_append 45 _ _ _ w2.heap.size hrow (heap_alloc_new w2 _) (by rw [filed_length _ _ hA2.len]; exact HFL.out)
  obtain ⟨va, vc, hv4, _⟩ := hr4.form
  rw [List.length_append, filed_length _ _ hA2.len] at hv4
  subst hv4
  have hgr : w2.grownBy w4 R.fv.ownBlock := by rw [HFV0.out]; exact grown_alloc _ hg4
  have hown : (Value.slice va (st.files.length + [((Value.slice none 0 0 : Value), (Value.int .i64 0 : Value))].length) vc).ownBlock = R.fv.ownBlock ∨ ∀ q, (Value.slice va (st.files.length + [((Value.slice none 0 0 : Value), (Value.int .i64 0 : Value))].length) vc).ownBlock = some q → w2.heap.size ≤ q := by
    rcases ha4 with e | e
    · exact .inl (by rw [e, HFV0.out])
    · refine .inr fun q hq => ?_
      rw [e] at hq; cases hq; simp
  have hX := hA2.addF hgr hr4 hown
  have hbl : b < w2.heap.size := hA2.lt_b
  have hbq : some b ≠ R.fv.ownBlock := fun e => hA2.bf e.symm rfl
  have f4 : w4.frozen? ⟨b, 1, none⟩ = false := by rw [World.frozen?_of_block (hgr.block b hbl hbq)]; simp [World.frozen?, hA2.cells, RCells]
  have g4 : w4.cell? ⟨b, 1, none⟩ = some (.slice fa st.files.length fcap) := (World.cell?_of_block (hgr.block b hbl hbq)).trans k0
  have c4 : w4.cell? ⟨b, 2, none⟩ = some R.dv := (World.cell?_of_block (hgr.block b hbl hbq)).trans (by simp [World.cell?, hA2.cells, RCells])
  have g2 : (w2.alloc (.cells #[.slice none 0 0, .int .i64 0] 87)).cell? ⟨b, 1, none⟩ = some (.slice fa st.files.length fcap) := (World.cell?_of_block (hb3.block b hbl)).trans k0
  have HRUN4 := Aside0.mk hrun4
  have HX4 := Aside0.mk hX
  have HA2 := Aside0.mk hA2
  clear hrun4 hX hA2 hb2 hb3 hrow hr4 hg4 ha4 hgr hown hbl hbq
  go_wp2_with (at_builtin; refine wpList_append_run _ rfl _ _ 45 rfl _ _ _ _ rfl rfl HRUN4.out ?_)
  obtain ⟨w5, hw5⟩ : ∃ w5, w4.setCell ⟨b, 1, none⟩ (.slice va (st.files.length + 1) vc) = w5 := ⟨_, rfl⟩
  have hX := HX4.out
  rw [List.length_singleton, hw5] at hX
  rw [hw5]
  obtain ⟨hA5, hF5⟩ := hX
  clear hw5 HX4 g2 k0 c2 c4 f4 g4
  have c5 : w5.cell? ⟨b, 2, none⟩ = some R.dv := by simp [World.cell?, hA5.cells, RCells]
  have HA5 := Aside0.mk hA5
  have HF5 := Aside0.mk hF5
  clear hA5 hF5
  refine (link_put R.dv st.dir n st.files.length w5 HA5.out.dir HL.out).mono ?_
  rintro e w6 ⟨v6, rfl, hr, hv, hb6⟩
  obtain ⟨la6, cap6, hvf, _, _⟩ := hr.form
  subst hvf
  have hA6 := HA5.out.below hb6
  have c6 : w6.cell? ⟨b, 2, none⟩ = some R.dv := by simp [World.cell?, hA6.cells, RCells]
  have f6 : w6.frozen? ⟨b, 2, none⟩ = false := by simp [World.frozen?, hA6.cells, RCells]
  have HX6 := Aside0.mk (HA5.out.newDir hb6 hr hv)
  clear hb6 hA6 hr hv
  go_wp2_with (fail)
  obtain ⟨w7, hw7⟩ : ∃ w7, w6.setCell ⟨b, 2, none⟩ (.slice la6 (links (put st.dir n.data.toList st.files.length)).length cap6) = w7 := ⟨_, rfl⟩
  have hX := HX6.out
  rw [hw7] at hX ⊢
  obtain ⟨hA7, hF7⟩ := hX
  clear hw7 HX6 c5 c6 f6
  have hFa : Fr fp w w7 := ((Fr.of_below (fp := fp) HB2.out).trans HF5.out (fun i hi hk => hk)).trans hF7 (fun i hi hk => hk.elim id (fun e => by have := HB2.out.size; omega))
  have HX7 := Aside0.mk (HX.out.fr hFa HOFF.out)
  obtain ⟨R7, hA7⟩ : ∃ R7, RAt R7 { st with files := st.files ++ [(⟨[], 0⟩ : F)], dir := put st.dir n.data.toList st.files.length } (nfp (nfp fp w2 w5) w5 w7) b w7 := ⟨_, hA7⟩
  have hlen7 : st.files.length < (st.files ++ [(⟨[], 0⟩ : F)]).length := by simp
  have hfk : St.file { st with files := st.files ++ [(⟨[], 0⟩ : F)], dir := put st.dir n.data.toList st.files.length } st.files.length = ⟨[], 0⟩ := by simp [St.file]
  have hrow := hA7.row st.files.length hlen7
  obtain ⟨g, cap, ra, rcap, hfv, hrv, l1, l2, m1, m2, k0, k1, k2, z1, z2⟩ := RAt.fileAt hA7 (i := st.files.length) hlen7
  rw [hfk] at hrv hrow k1
  rw [List.length_append, List.length_singleton] at hfv k0
  have i1 : (st.files.length : Int) < st.files.length + 1 := by omega
  rw [hrv] at hrow
  obtain ⟨v3, w8, hrun, hr3, hg3, ha3⟩ := brow_append 29 w7.drew (.slice ra 0 rcap) (.slice xa ys.length xc) [] ys (BRow.heap hrow fun _ _ => rfl) (Src.below HX7.out (Below.refl _ _).drew) (by simpa using HY.out)
  rw [List.nil_append] at hr3
  obtain ⟨va8, vc8, hv3, _⟩ := hr3.form
  subst hv3
  have hown : (Value.slice va8 ys.length vc8).ownBlock = (R7.v st.files.length).ownBlock ∨ ∀ q, (Value.slice va8 ys.length vc8).ownBlock = some q → w7.heap.size ≤ q := by
    rcases ha3 with e | e
    · exact .inl (by rw [e, hrv]; rfl)
    · refine .inr fun q hq => ?_
      rw [e] at hq; cases hq; exact Nat.le_refl _
  have hgr : w7.grownBy w8 (R7.v st.files.length).ownBlock := by rw [hrv]; exact grown_drew hg3
  have hX := hA7.setB (i := st.files.length) hlen7 (g := g) (by rw [hfv]; rfl) (v' := .slice va8 ys.length vc8) (bs := ys) hgr hr3 hown
  have hend : (St.upd { st with files := st.files ++ [(⟨[], 0⟩ : F)], dir := put st.dir n.data.toList st.files.length } st.files.length ⟨ys, (St.file { st with files := st.files ++ [(⟨[], 0⟩ : F)], dir := put st.dir n.data.toList st.files.length } st.files.length).safe⟩) = { st with files := st.files ++ [⟨ys, 0⟩], dir := put st.dir n.data.toList st.files.length } := by
    rw [hfk]; simp [St.upd]
  rw [hend] at hX
  have hbl : b < w7.heap.size := hA7.lt_b
  have hgl : g < w7.heap.size := hA7.files.lt (by rw [hfv]; rfl)
  have hbq : some b ≠ (Value.slice ra 0 rcap).ownBlock := fun e => hA7.br hlen7 (by rw [hrv]; exact e.symm) rfl
  have hgq : some g ≠ (Value.slice ra 0 rcap).ownBlock := fun e => hA7.fr hlen7 (by rw [hrv]; exact e.symm) (by rw [hfv]; rfl)
  rw [hrv] at hgr
  have p0 : w8.cell? ⟨b, 1, none⟩ = some (.slice (some ⟨g, 0, none⟩) (st.files.length + 1) cap) := (World.cell?_of_block (hgr.block b hbl hbq)).trans k0
  have p1 : w8.cell? ⟨g, st.files.length * 2, none⟩ = some (.slice ra 0 rcap) := (World.cell?_of_block (hgr.block g hgl hgq)).trans k1
  have p2 : w8.frozen? ⟨g, st.files.length * 2, none⟩ = false := by rw [World.frozen?_of_block (hgr.block g hgl hgq)]; exact z1
  have HRUN := Aside0.mk hrun
  have HX8 := Aside0.mk hX
  have HFA := Aside0.mk hFa
  have HF7 := Aside0.mk hF7
  have k1' : w7.cell? ⟨g, st.files.length * 2, none⟩ = some (.slice ra 0 rcap) := k1
  clear hrun hX hrow hfv hrv l1 l2 m1 m2 k2 z2 hr3 hg3 ha3 hown hgr hbl hgl hbq hgq hA7 hend hfk hF7 hFa hlen7 k1
  go_wp2_with (fail)
  apply wp_to
  case h =>
    go_region_law (refine step_append_run rfl _ _ 29 rfl _ _ _ _ rfl rfl HRUN.out ?_)
    all_goals exact ⟨rfl, rfl⟩
  clear k0 k1' p0 p1 p2 z1
  go_wp2_with (fail)
  go_end0
  exact ⟨rfl, rnx_fr (Fr.of_below (fp := fp) HB2.out) (rnx_trans HF5.out (rnx_trans HF7.out (rnx_of HX8.out)))⟩
theorem ref_lay (h : RAt R st fp b w) (hw : Wf st) (n : ByteArray) (x : Value) (ys : Bs) (hx : Src w x ys) (ho : Off fp x) (hl : st.dir.length ≤ 1000000) (hfl : st.files.length ≤ 1000000) (hy : ys.length ≤ 140737488355328) (hly : ∀ i, st.used i → st.len i + ys.length ≤ 140737488355328) :
    Calls Try.prog 51 #[.pointer (some ⟨b, 0, none⟩), .string n, x] w fun e w' => e = .returned (.tuple #[]) ∧ RNx (st.lay n.data.toList ys) fp b w w' := by
  cases hf : find st.dir n.data.toList with
  | none => exact rlay_none h n x ys hx ho hf hl hfl hy
  | some i => exact rlay_found h n x ys hx hf (used_lt hw (find_used hf)) hl (hly i (find_used hf))
end
end Go.Proofs.Ytcaipccgphblnaa.Dk
