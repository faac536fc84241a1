/- disk: the document's Remove, Rename, Flush, Read. -/
import Derived.Test.YtcaipccgphblnaaRefAt
namespace Go.Proofs.Ytcaipccgphblnaa.Dk
open Go.RowKit Go.WideMaps Go.Proofs.YtcaipccgphblnaaW.PrintWords
set_option linter.unusedSimpArgs false
section
variable {R : RLay} {st : St} {fp : Nat → Prop} {b : Nat} {w : World}
/-- The directory has turned: a new row, laid in its cell. -/
theorem RAt.newDir (h : RAt R st fp b w) {w1 : World} (hb : Below w.heap.size w w1) {d' : Lk} {v' : Value} (hr : SRow w1 53 v' (links d')) (hv : ∀ g, v'.ownBlock = some g → w.heap.size ≤ g) :
    RAt { R with dv := v' } { st with dir := d' } (nfp fp w (w1.setCell ⟨b, 2, none⟩ v')) b (w1.setCell ⟨b, 2, none⟩ v') ∧ Fr fp w (w1.setCell ⟨b, 2, none⟩ v') := by
  have h1 := h.below hb
  have hne : ∀ k, k ≠ b → (w1.setCell ⟨b, 2, none⟩ v').heap[k]? = w1.heap[k]? := fun k hk => Below.heap_setCell _ _ _ k hk
  have hvb : ∀ g, v'.ownBlock = some g → g ≠ b := fun g hg e => by have := hv g hg; have := h.lt_b; omega
  have hs := hb.size
  refine ⟨?_, (Fr.of_below hb).setCell (.inl h.fpb) _⟩
  exact { cells := by simp [World.setCell, Array.getElem?_modify, h1.cells, RCells]
          len := h.len
          files := h1.files.heap fun g hg => hne g (h1.bf hg)
          dir := hr.heap fun g hg => hne g (hvb g hg)
          sdir := h1.sdir.heap fun g hg => hne g (h1.bs hg)
          row := fun i hi => BRow.heap (h1.row i hi) fun g hg => hne g (h1.br hi hg)
          sep := h.sep
          dsep := fun g hg e => by have := hv g hg; have := h.sdir.lt e; omega
          fpb := .inl h.fpb
          fpf := fun g hg => .inl (h.fpf g hg)
          fpd := fun g hg => .inr ⟨hv g hg, by simpa using hr.lt hg⟩
          fps := fun g hg => .inl (h.fps g hg)
          fpr := fun i hi g hg => .inl (h.fpr i hi g hg)
          fpl := fun k hk => hk.elim (fun e => by have := h.fpl k e; simp; omega) (fun e => e.2) }
theorem RAt.newSafe (h : RAt R st fp b w) {w1 : World} (hb : Below w.heap.size w w1) {d' : Lk} {v' : Value} (hr : SRow w1 53 v' (links d')) (hv : ∀ g, v'.ownBlock = some g → w.heap.size ≤ g) :
    RAt { R with sv := v' } { st with safe := d' } (nfp fp w (w1.setCell ⟨b, 3, none⟩ v')) b (w1.setCell ⟨b, 3, none⟩ v') ∧ Fr fp w (w1.setCell ⟨b, 3, none⟩ v') := by
  have h1 := h.below hb
  have hne : ∀ k, k ≠ b → (w1.setCell ⟨b, 3, none⟩ v').heap[k]? = w1.heap[k]? := fun k hk => Below.heap_setCell _ _ _ k hk
  have hvb : ∀ g, v'.ownBlock = some g → g ≠ b := fun g hg e => by have := hv g hg; have := h.lt_b; omega
  have hs := hb.size
  refine ⟨?_, (Fr.of_below hb).setCell (.inl h.fpb) _⟩
  exact { cells := by simp [World.setCell, Array.getElem?_modify, h1.cells, RCells]
          len := h.len
          files := h1.files.heap fun g hg => hne g (h1.bf hg)
          dir := h1.dir.heap fun g hg => hne g (h1.bd hg)
          sdir := hr.heap fun g hg => hne g (hvb g hg)
          row := fun i hi => BRow.heap (h1.row i hi) fun g hg => hne g (h1.br hi hg)
          sep := h.sep
          dsep := fun g hg e => by have := hv g e; have := h.dir.lt hg; omega
          fpb := .inl h.fpb
          fpf := fun g hg => .inl (h.fpf g hg)
          fpd := fun g hg => .inl (h.fpd g hg)
          fps := fun g hg => .inr ⟨hv g hg, by simpa using hr.lt hg⟩
          fpr := fun i hi g hg => .inl (h.fpr i hi g hg)
          fpl := fun k hk => hk.elim (fun e => by have := h.fpl k e; simp; omega) (fun e => e.2) }
theorem rnx_of {st' : St} {R' : RLay} {w' : World} (h : RAt R' st' (nfp fp w w') b w' ∧ Fr fp w w') : RNx st' fp b w w' := ⟨⟨_, h.1⟩, h.2⟩
theorem findI_none {l : Lk} {n : Bs} (h : find l n = none) : findI l n = -1 := by simp [findI, h]
theorem findI_some {l : Lk} {n : Bs} {i : Nat} (h : find l n = some i) : findI l n = (i : Int) := by simp [findI, h]
theorem ref_remove (h : RAt R st fp b w) (hw : Wf st) (n : ByteArray) (hl : st.dir.length ≤ 1000000) :
    Calls Try.prog 39 #[.pointer (some ⟨b, 0, none⟩), .string n] w fun e w' => e = .returned (.int .i64 (st.remove n.data.toList).1) ∧ RNx (st.remove n.data.toList).2 fp b w w' := by
  have H := Aside0.mk h
  have HL := Aside0.mk hl
  have HM := Aside0.mk (ref_may h hw)
  clear h hw hl
  by_cases hok : st.ok = false
  · have hs : st.remove n.data.toList = (171, st.may) := by simp [St.remove, hok]
    rw [hs]
    clear hs
    go_enter Try.func39, Try.ntmps39
    go_wp2_with (fail)
    refine HM.out.mono ?_
    rintro e w1 ⟨rfl, hA, hb⟩
    rw [hok]
    have HA := Aside0.mk hA
    have HB := Aside0.mk hb
    clear hA hb
    go_wp2_with (fail)
    go_ret
    exact ⟨rfl, ⟨R, HA.out.nf (Nat.le_of_eq HB.out.size.symm) H.out.fpl⟩, Fr.of_but HB.out H.out.fpb⟩
  · have hok : st.ok = true := by simpa using hok
    cases hf : find st.dir n.data.toList with
    | none =>
      have hs : st.remove n.data.toList = (172, st.may) := by simp [St.remove, hok, hf]
      rw [hs]
      have HFI := Aside0.mk (findI_none hf)
      clear hs hf
      go_enter Try.func39, Try.ntmps39
      go_wp2_with (fail)
      refine HM.out.mono ?_
      rintro e w1 ⟨rfl, hA, hb⟩
      rw [hok]
      have c2 : w1.cell? ⟨b, 2, none⟩ = some R.dv := by simp [World.cell?, hA.cells, RCells]
      have HA := Aside0.mk hA
      have HB := Aside0.mk hb
      clear hA hb
      go_wp2_with (fail)
      refine (find_calls R.dv st.dir n w1 HA.out.dir (by have := HL.out; omega)).mono ?_
      rintro e w2 ⟨rfl, hb2⟩
      rw [HFI.out]
      have HB2 := Aside0.mk hb2
      clear hb2
      go_wp2_with (fail)
      go_ret
      exact ⟨rfl, rnx_fr (Fr.of_but HB.out H.out.fpb) ⟨⟨R, (HA.out.below HB2.out).nf HB2.out.size HA.out.fpl⟩, Fr.of_below HB2.out⟩⟩
    | some i =>
      have hs : st.remove n.data.toList = (0, { st.may with dir := del st.dir n.data.toList }) := by simp [St.remove, hok, hf]
      rw [hs]
      have HFI := Aside0.mk (findI_some hf)
      clear hs hf
      go_enter Try.func39, Try.ntmps39
      go_wp2_with (fail)
      refine HM.out.mono ?_
      rintro e w1 ⟨rfl, hA, hb⟩
      rw [hok]
      have c2 : w1.cell? ⟨b, 2, none⟩ = some R.dv := by simp [World.cell?, hA.cells, RCells]
      have HA := Aside0.mk hA
      have HB := Aside0.mk hb
      clear hA hb
      go_wp2_with (fail)
      refine (find_calls R.dv st.dir n w1 HA.out.dir (by have := HL.out; omega)).mono ?_
      rintro e w2 ⟨rfl, hb2⟩
      rw [HFI.out]
      have d0 : decide ((i : Int) < 0) = false := by simp
      have hA2 := HA.out.below hb2
      have c3 : w2.cell? ⟨b, 2, none⟩ = some R.dv := by simp [World.cell?, hA2.cells, RCells]
      have HA2 := Aside0.mk hA2
      have HB2 := Aside0.mk hb2
      clear hb2 hA2
      go_wp2_with (fail)
      refine (link_del R.dv st.dir n w2 HA2.out.dir HL.out).mono ?_
      rintro e w3 ⟨v', rfl, hr, hv, hb3⟩
      obtain ⟨la, cap, hvf, _, _⟩ := hr.form
      subst hvf
      have hA3 := HA2.out.below hb3
      have c4 : w3.cell? ⟨b, 2, none⟩ = some R.dv := by simp [World.cell?, hA3.cells, RCells]
      have f4 : w3.frozen? ⟨b, 2, none⟩ = false := by simp [World.frozen?, hA3.cells, RCells]
      have HR := Aside0.mk hr
      have HV := Aside0.mk hv
      have HB3 := Aside0.mk hb3
      clear hb3 hA3 hr hv
      go_wp2_with (fail)
      go_ret
      exact ⟨rfl, rnx_fr ((Fr.of_but HB.out H.out.fpb).trans (Fr.of_below (fp := fp) HB2.out) (fun _ _ h => h)) (rnx_of (HA2.out.newDir HB3.out HR.out HV.out))⟩
theorem ref_rename (h : RAt R st fp b w) (hw : Wf st) (n t : ByteArray) (hl : st.dir.length ≤ 1000000) :
    Calls Try.prog 38 #[.pointer (some ⟨b, 0, none⟩), .string n, .string t] w fun e w' => e = .returned (.int .i64 (st.rename n.data.toList t.data.toList).1) ∧ RNx (st.rename n.data.toList t.data.toList).2 fp b w w' := by
  have H := Aside0.mk h
  have HL := Aside0.mk hl
  have HM := Aside0.mk (ref_may h hw)
  clear h hw hl
  by_cases hok : st.ok = false
  · have hs : st.rename n.data.toList t.data.toList = (171, st.may) := by simp [St.rename, hok]
    rw [hs]
    clear hs
    go_enter Try.func38, Try.ntmps38
    go_wp2_with (fail)
    refine HM.out.mono ?_
    rintro e w1 ⟨rfl, hA, hb⟩
    rw [hok]
    have c2 : w1.cell? ⟨b, 2, none⟩ = some R.dv := by simp [World.cell?, hA.cells, RCells]
    have HA := Aside0.mk hA
    have HB := Aside0.mk hb
    clear hA hb
    go_wp2_with (fail)
    refine (find_calls R.dv st.dir n w1 HA.out.dir (by have := HL.out; omega)).mono ?_
    rintro e w2 ⟨rfl, hb2⟩
    have HB2 := Aside0.mk hb2
    clear hb2
    go_wp2_with (fail)
    go_ret
    exact ⟨rfl, rnx_fr (Fr.of_but HB.out H.out.fpb) ⟨⟨R, (HA.out.below HB2.out).nf HB2.out.size HA.out.fpl⟩, Fr.of_below HB2.out⟩⟩
  · have hok : st.ok = true := by simpa using hok
    cases hf : find st.dir n.data.toList with
    | none =>
      have hs : st.rename n.data.toList t.data.toList = (172, st.may) := by simp [St.rename, hok, hf]
      rw [hs]
      have HFI := Aside0.mk (findI_none hf)
      clear hs hf
      go_enter Try.func38, Try.ntmps38
      go_wp2_with (fail)
      refine HM.out.mono ?_
      rintro e w1 ⟨rfl, hA, hb⟩
      rw [hok]
      have c2 : w1.cell? ⟨b, 2, none⟩ = some R.dv := by simp [World.cell?, hA.cells, RCells]
      have HA := Aside0.mk hA
      have HB := Aside0.mk hb
      clear hA hb
      go_wp2_with (fail)
      refine (find_calls R.dv st.dir n w1 HA.out.dir (by have := HL.out; omega)).mono ?_
      rintro e w2 ⟨rfl, hb2⟩
      rw [HFI.out]
      have HB2 := Aside0.mk hb2
      clear hb2
      go_wp2_with (fail)
      go_ret
      exact ⟨rfl, rnx_fr (Fr.of_but HB.out H.out.fpb) ⟨⟨R, (HA.out.below HB2.out).nf HB2.out.size HA.out.fpl⟩, Fr.of_below HB2.out⟩⟩
    | some i =>
      have HFI := Aside0.mk (findI_some hf)
      have d0 : decide ((i : Int) < 0) = false := by simp
      by_cases h0 : t.data.toList = []
      · have hs : st.rename n.data.toList t.data.toList = (2, st.may) := by simp [St.rename, hok, hf, h0]
        rw [hs]
        have e0 : ((t.size : Int) == 0) = true := by
          have : t.size = 0 := by rw [Lib.size_eq, h0]; rfl
          rw [this]; rfl
        clear hs hf h0
        go_enter Try.func38, Try.ntmps38
        go_wp2_with (fail)
        refine HM.out.mono ?_
        rintro e w1 ⟨rfl, hA, hb⟩
        rw [hok]
        have c2 : w1.cell? ⟨b, 2, none⟩ = some R.dv := by simp [World.cell?, hA.cells, RCells]
        have HA := Aside0.mk hA
        have HB := Aside0.mk hb
        clear hA hb
        go_wp2_with (fail)
        refine (find_calls R.dv st.dir n w1 HA.out.dir (by have := HL.out; omega)).mono ?_
        rintro e w2 ⟨rfl, hb2⟩
        rw [HFI.out]
        have HB2 := Aside0.mk hb2
        clear hb2
        go_wp2_with (fail)
        go_ret
        exact ⟨rfl, rnx_fr (Fr.of_but HB.out H.out.fpb) ⟨⟨R, (HA.out.below HB2.out).nf HB2.out.size HA.out.fpl⟩, Fr.of_below HB2.out⟩⟩
      · have hs : st.rename n.data.toList t.data.toList = (0, { st.may with dir := put (del st.dir n.data.toList) t.data.toList i }) := by simp [St.rename, hok, hf, h0]
        rw [hs]
        have e0 : ((t.size : Int) == 0) = false := by
          have : t.size ≠ 0 := by rw [Lib.size_eq]; exact fun e => h0 (List.eq_nil_of_length_eq_zero e)
          simpa using this
        clear hs hf h0
        go_enter Try.func38, Try.ntmps38
        go_wp2_with (fail)
        refine HM.out.mono ?_
        rintro e w1 ⟨rfl, hA, hb⟩
        rw [hok]
        have c2 : w1.cell? ⟨b, 2, none⟩ = some R.dv := by simp [World.cell?, hA.cells, RCells]
        have HA := Aside0.mk hA
        have HB := Aside0.mk hb
        clear hA hb
        go_wp2_with (fail)
        refine (find_calls R.dv st.dir n w1 HA.out.dir (by have := HL.out; omega)).mono ?_
        rintro e w2 ⟨rfl, hb2⟩
        rw [HFI.out]
        have hA2 := HA.out.below hb2
        have c3 : w2.cell? ⟨b, 2, none⟩ = some R.dv := by simp [World.cell?, hA2.cells, RCells]
        have HA2 := Aside0.mk hA2
        have HB2 := Aside0.mk hb2
        clear hb2 hA2
        go_wp2_with (fail)
        refine (link_del R.dv st.dir n w2 HA2.out.dir HL.out).mono ?_
        rintro e w3 ⟨v', rfl, hr, hv, hb3⟩
        obtain ⟨la, cap, hvf, _, _⟩ := hr.form
        subst hvf
        have hA3 := HA2.out.below hb3
        have c4 : w3.cell? ⟨b, 2, none⟩ = some R.dv := by simp [World.cell?, hA3.cells, RCells]
        have f4 : w3.frozen? ⟨b, 2, none⟩ = false := by simp [World.frozen?, hA3.cells, RCells]
        have HR := Aside0.mk hr
        have HX := Aside0.mk (HA2.out.newDir hb3 hr hv)
        have HB3 := Aside0.mk hb3
        clear hb3 hA3 hr hv
        go_wp2_with (fail)
        obtain ⟨w4, hw4⟩ : ∃ w4, w3.setCell ⟨b, 2, none⟩ (.slice la (links (del st.dir n.data.toList)).length cap) = w4 := ⟨_, rfl⟩
        have hX := HX.out
        rw [hw4] at hX ⊢
        obtain ⟨hA4, hF4⟩ := hX
        have c5 : w4.cell? ⟨b, 2, none⟩ = some (.slice la (links (del st.dir n.data.toList)).length cap) := by simp [World.cell?, hA4.cells, RCells]
        have HA4 := Aside0.mk hA4
        have HF4 := Aside0.mk hF4
        clear hA4 hF4 hw4 HX
        refine (link_put _ (del st.dir n.data.toList) t i w4 HA4.out.dir (by have := HL.out; have := List.length_filter_le (fun p => !(p.1 == n.data.toList)) st.dir; unfold del; omega)).mono ?_
        rintro e w5 ⟨v5, rfl, hr, hv, hb5⟩
        obtain ⟨la5, cap5, hvf, _, _⟩ := hr.form
        subst hvf
        have hA5 := HA4.out.below hb5
        have c6 : w5.cell? ⟨b, 2, none⟩ = some (.slice la (links (del st.dir n.data.toList)).length cap) := by simp [World.cell?, hA5.cells, RCells]
        have f6 : w5.frozen? ⟨b, 2, none⟩ = false := by simp [World.frozen?, hA5.cells, RCells]
        have HX5 := Aside0.mk (HA4.out.newDir hb5 hr hv)
        clear hb5 hA5 hr hv
        go_wp2_with (fail)
        go_ret
        exact ⟨rfl, rnx_fr ((Fr.of_but HB.out H.out.fpb).trans (Fr.of_below (fp := fp) HB2.out) (fun _ _ h => h)) (rnx_trans HF4.out (rnx_of HX5.out))⟩
theorem links_append_all (ty : TypeId) (w : World) (v : Value) (l : Lk) (h : SRow w 53 v (links l)) (hl : l.length ≤ 1000000) :
    ∃ v' w', (Builtin.append_ #[46, 46] ty #[.slice (some ⟨w.heap.size, 0, none⟩) 0 0, v]).run Try.prog (w.alloc (.cells #[] 53)) = .ok v' w' ∧ SRow w' 53 v' (links l) ∧ (∀ g, v'.ownBlock = some g → w.heap.size ≤ g) ∧ Below w.heap.size w w' := by
  obtain ⟨i0, hi, hz0, hz1, hz2⟩ := info_parts info53
  have hown0 : (w.alloc (.cells #[] 53)).ownsRow w.heap.size 53 2 (.slice (some ⟨w.heap.size, 0, none⟩) 0 0) 0 [] := World.ownsRow_made w #[] 0 (Nat.le_refl _) (Nat.zero_le _) rfl
  have hb0 : Below w.heap.size w (w.alloc (.cells #[] 53)) := (Below.refl _ _).alloc (Nat.le_refl _) _
  have h' := h.below hb0
  rcases h'.2 with ⟨rfl, h0⟩ | ⟨g, cap, cur, rfl, _, hg, h1, h2, h3, h4⟩
  · have hl0 : l = [] := List.eq_nil_of_length_eq_zero (by rw [links_length] at h0; exact h0)
    subst hl0
    refine ⟨.slice (some ⟨w.heap.size, 0, none⟩) 0 0, w.alloc (.cells #[] 53), ?_, (SRow.of_own (xs := links []) hown0 rfl).1, (SRow.of_own (xs := links []) hown0 rfl).2, hb0⟩
    simp [Builtin.append_, run_underlying Try.underlying46, sizeOf, typeInfo, hi, Builtin.lenOf, Builtin.firstCells, loadCells, loadCellsFrom, storeCells]
  · have hcell := World.ownsRow.cells h' (g := g) rfl
    obtain ⟨v', w', hr, hown, hgr, _⟩ := run_append_own (P := Try.prog) (w.alloc (.cells #[] 53)) w.heap.size 46 ty 53 i0 _ 2 24 Try.underlying46 hi hz0 hz1 hz2 rfl (by decide) _ 0 [] hown0 ⟨g, 0, none⟩ (links l).length cap (flat (links l)) (by rw [flat_length]) hcell
      (by
        intro u hu
        simp only [flat, links, List.mem_flatMap, List.mem_map] at hu
        obtain ⟨p, ⟨q, _, rfl⟩, hp⟩ := hu
        simp only [List.mem_cons, List.not_mem_nil, or_false] at hp
        rcases hp with rfl | rfl <;> rfl)
      (by rw [links_length]; simp only [maxLen]; omega) (by rw [links_length]; omega) (by simp)
    simp only [Nat.zero_add, List.nil_append] at hown
    exact ⟨v', w', hr, (SRow.of_own hown rfl).1, (SRow.of_own hown rfl).2, hb0.grown hgr (by simp) (fun k e => by cases e; exact Nat.le_refl _)⟩
/-- 'append([]Link{}, l...)', at the operation. -/
theorem wpList_append_links {ops : Array Oper} {rest : List Oper} {o : Oper} {a : Act} {Q : Exit → Act → World → Prop} (w : World) (hgd : o.guard = none) (s x : Operand)
    (ho : o.op = .call { callee := .builtin .append, args := #[s, x], argTypes := #[46, 46] }) (v : Value) (l : Lk) (hs : a.eval s = .slice (some ⟨w.heap.size, 0, none⟩) 0 0) (hx : a.eval x = v)
    (h : SRow w 53 v (links l)) (hl : l.length ≤ 1000000)
    (hK : ∀ (la : Option Addr) (cap : Nat) (w' : World), SRow w' 53 (.slice la (links l).length cap) (links l) → (∀ g, (Value.slice la (links l).length cap).ownBlock = some g → w.heap.size ≤ g) → Below w.heap.size w w' →
      wpList Try.prog ops Q rest (a.put o.dst (.slice la (links l).length cap)) w') : wpList Try.prog ops Q (o :: rest) a (w.alloc (.cells #[] 53)) := by
  refine wpList_plain hgd fun K hKK => ?_
  obtain ⟨v', w', hr, h2, h3, h4⟩ := links_append_all o.type w v l h hl
  obtain ⟨la, cap, hv, _⟩ := h2.form
  subst hv
  unfold Oper.wp execOp
  simp only [ho, resolve, invoke, builtin, Sem.run_bind, Sem.run_pure, Result.andThen_ok, List.map_toArray, List.map_cons, List.map_nil, hs, hx, hr]
  exact hKK _ _ (hK la cap w' h2 h3 h4)
theorem ref_flush (h : RAt R st fp b w) (hw : Wf st) (hl : st.dir.length ≤ 1000000) :
    Calls Try.prog 40 #[.pointer (some ⟨b, 0, none⟩)] w fun e w' => e = .returned (.int .i64 st.flush.1) ∧ RNx st.flush.2 fp b w w' := by
  have H := Aside0.mk h
  have HL := Aside0.mk hl
  have HM := Aside0.mk (ref_may h hw)
  clear h hw hl
  by_cases hok : st.ok = false
  · have hs : st.flush = (171, st.may) := by simp [St.flush, hok]
    rw [hs]
    clear hs
    go_enter Try.func40, Try.ntmps40
    go_wp2_with (fail)
    refine HM.out.mono ?_
    rintro e w1 ⟨rfl, hA, hb⟩
    rw [hok]
    have c2 : w1.cell? ⟨b, 2, none⟩ = some R.dv := by simp [World.cell?, hA.cells, RCells]
    have HA := Aside0.mk hA
    have HB := Aside0.mk hb
    clear hA hb
    go_wp2_with (fail)
    go_ret
    exact ⟨rfl, ⟨R, HA.out.nf (Nat.le_of_eq HB.out.size.symm) H.out.fpl⟩, Fr.of_but HB.out H.out.fpb⟩
  · have hok : st.ok = true := by simpa using hok
    have hs : st.flush = (0, { st.may with safe := st.dir }) := by simp [St.flush, hok]
    rw [hs]
    clear hs
    go_enter Try.func40, Try.ntmps40
    go_wp2_with (fail)
    refine HM.out.mono ?_
    rintro e w1 ⟨rfl, hA, hb⟩
    rw [hok]
    have c2 : w1.cell? ⟨b, 2, none⟩ = some R.dv := by simp [World.cell?, hA.cells, RCells]
    have HA := Aside0.mk hA
    have HB := Aside0.mk hb
    clear hA hb
    have c3 : (w1.alloc (.cells #[] 53)).cell? ⟨b, 2, none⟩ = some R.dv := (World.cell?_of_block (Below.heap_alloc _ _ _ HA.out.lt_b)).trans c2
    go_wp2_with (at_builtin; refine wpList_append_links _ rfl _ _ rfl R.dv st.dir rfl rfl HA.out.dir HL.out ?_; intro la cap w2 hr hv hb2; have hA2 := HA.out.below hb2; have c4 : w2.cell? ⟨b, 3, none⟩ = some R.sv := (by simp [World.cell?, hA2.cells, RCells]); have f4 : w2.frozen? ⟨b, 3, none⟩ = false := (by simp [World.frozen?, hA2.cells, RCells]); have HX := Aside0.mk (HA.out.newSafe hb2 hr hv); clear hr hv hb2 hA2)
    go_ret
    exact ⟨rfl, rnx_fr (Fr.of_but HB.out H.out.fpb) (rnx_of HX.out)⟩
theorem ref_read_none (h : RAt R st fp b w) (n : ByteArray) (hf : find st.dir n.data.toList = none) (hl : st.dir.length ≤ 1000000) :
    Calls Try.prog 21 #[.pointer (some ⟨b, 0, none⟩), .string n] w fun e w' => e = .returned (.tuple #[.slice none 0 0, .bool false]) ∧ Below w.heap.size w w' := by
  have c2 : w.cell? ⟨b, 2, none⟩ = some R.dv := by simp [World.cell?, h.cells, RCells]
  have HF := Aside0.mk (find_calls R.dv st.dir n w h.dir (by omega))
  have HFI := Aside0.mk (findI_none hf)
  clear h hf hl
  go_enter Try.func21, Try.ntmps21
  go_wp2_with (fail)
  refine HF.out.mono ?_
  rintro e w2 ⟨rfl, hb2⟩
  rw [HFI.out]
  have HB2 := Aside0.mk hb2
  clear hb2
  go_wp2_with (fail)
  go_ret2
  exact ⟨rfl, HB2.out⟩
theorem ref_read (h : RAt R st fp b w) (hw : Wf st) (n : ByteArray) {i : Nat} (hf : find st.dir n.data.toList = some i) (hl : st.dir.length ≤ 1000000) (hfl : st.files.length ≤ 1000000) :
    Calls Try.prog 21 #[.pointer (some ⟨b, 0, none⟩), .string n] w fun e w' => e = .returned (.tuple #[R.v i, .bool true]) ∧ Below w.heap.size w w' := by
  have hi := used_lt hw (find_used hf)
  have c2 : w.cell? ⟨b, 2, none⟩ = some R.dv := by simp [World.cell?, h.cells, RCells]
  have HF := Aside0.mk (find_calls R.dv st.dir n w h.dir (by omega))
  have HFI := Aside0.mk (findI_some hf)
  have d0 : decide ((i : Int) < 0) = false := by simp
  have HA := Aside0.mk h
  have HFL := Aside0.mk hfl
  clear h hf hl hfl
  go_enter Try.func21, Try.ntmps21
  go_wp2_with (fail)
  refine HF.out.mono ?_
  rintro e w2 ⟨rfl, hb2⟩
  rw [HFI.out]
  have hA2 := HA.out.below hb2
  have HB2 := Aside0.mk hb2
  obtain ⟨g, cap, cur, hfv, _, q0, q1, _, _, l1, l2⟩ := hA2.files.at (filed_get hA2.len hi)
  have q0 : w2.cell? ⟨g, i * 2, none⟩ = some (R.v i) := q0
  rw [filed_length _ _ hA2.len] at hfv l1
  have c3 : w2.cell? ⟨b, 1, none⟩ = some (.slice (some ⟨g, 0, none⟩) st.files.length cap) := by rw [← hfv]; simp [World.cell?, hA2.cells, RCells]
  have i1 : (i : Int) < st.files.length := by omega
  have HQ := Aside0.mk q1
  have HV := Aside0.mk hfv
  have HL1 := Aside0.mk l1
  have HL2 := Aside0.mk l2
  clear hb2 hA2 q1 hfv l1 l2
  go_wp2_with (fail)
  go_ret2
  exact ⟨by simp [RLay.v], HB2.out⟩
end
end Go.Proofs.Ytcaipccgphblnaa.Dk
