/- disk: lay (a new file), Write. -/
import Derived.Test.YtcaipccgphblnaaLay
namespace Go.Proofs.Ytcaipccgphblnaa.Dk
open Go.RowKit Go.WideMaps Go.Proofs.YtcaipccgphblnaaW.PrintWords
set_option linter.unusedSimpArgs false
section
variable {L : Lay} {st : St} {fp : Nat → Prop} {b : Nat} {w : World}
theorem lay_none (h : At L st fp b w) (hw : Wf st) (n : ByteArray) (hn : n.size ≤ maxLen) (x : Value) (ys : Bs) (hx : Src w x ys) (hf : find st.dir n.data.toList = none) (hl : ys.length ≤ 140737488355328) (hfew : st.dir.length < maxLen) :
    Calls Try.prog 23 #[.pointer (some ⟨b, 0, none⟩), .string n, x] w fun e w' => e = .returned (.tuple #[]) ∧ Nx (st.lay n.data.toList ys) fp b w w' := by
  have hlk := look_none h n hn hf
  have hst : st.lay n.data.toList ys = { st with files := st.files ++ [⟨ys, 0⟩], dir := put st.dir n.data.toList st.files.length } := by simp [St.lay, hf]
  rw [hst]
  have c1 : w.cell? ⟨b, 1, none⟩ = some (.map (some L.m)) := by simp [World.cell?, h.cells, DCells]
  have hA1 := h.alloc (.cells #[.slice none 0 0, .int .i64 0] 65)
  obtain ⟨w2, hrun, hm2, hg2⟩ := hA1.dir.update (Maps.string_keyed Try.underlying9) Try.underlying57 hfew (key := .string n) (kl := .string n.data.toList) (val := .pointer (some ⟨w.heap.size, 0, none⟩)) (d := .lit (.int .i64 (w.heap.size : Nat))) (ps := []) (by simp [keyOf, mapKey, Try.underlying9, hn]) rfl
  have hlm : w.heap.size ≠ L.m := fun e => by have := h.dir.lt; omega
  have hfile2 : w2.heap[w.heap.size]? = some (.cells #[.slice none 0 0, .int .i64 0] 65 (0, 0)) := (hg2.block _ (by simp) (fun e => hlm (Option.some.inj e))).trans (heap_alloc_new w _)
  have k1 : w2.cell? ⟨w.heap.size, 0, none⟩ = some (.slice none 0 0) := by simp [World.cell?, hfile2]
  have hb2 : Below w.heap.size w2 w2 := Below.refl _ _
  have hgw : w.grownBy w2 (some L.m) := ⟨hg2.os, hg2.tape, hg2.output, by have := hg2.size; simp at this; omega, fun k hk hne => (hg2.block k (by simp; omega) hne).trans (Below.heap_alloc _ _ _ hk)⟩
  have hs2 : w.heap.size < w2.heap.size := by have := hg2.size; simp at this; omega
  have hsrc : Src w2 x ys := by
    rcases hx with hx | ⟨a, cap, rfl, hcp, hc⟩
    · exact .inl hx
    · refine .inr ⟨a, cap, rfl, hcp, fun j c hj => ?_⟩
      have hcell := hc j c hj
      refine (World.cell?_of_block (hgw.block _ (World.block_lt_of_cell? w _ hcell) (fun e => ?_))).trans hcell
      obtain ⟨es, cc, hmm⟩ := ownsMap_map h.dir
      unfold World.cell? at hcell
      have e1 : (a.add j).block = L.m := Option.some.inj e
      rw [e1, hmm] at hcell
      cases hcell
  have c2 : (w.alloc (.cells #[.slice none 0 0, .int .i64 0] 65)).cell? ⟨b, 1, none⟩ = some (.map (some L.m)) := (World.cell?_of_block (Below.heap_alloc _ _ _ h.lt_b)).trans c1
  have H := Aside0.mk h
  have HW := Aside0.mk hw
  have HX := Aside0.mk hsrc
  have HL := Aside0.mk (show ([] : Bs).length + ys.length ≤ 140737488355328 by simpa using hl)
  have HF := Aside0.mk hfile2
  have HM := Aside0.mk hm2
  have HG := Aside0.mk hgw
  have HS := Aside0.mk hs2
  obtain ⟨xa, xc, rfl⟩ := hsrc.form
  clear h hf hn hl hw hst hx hfile2 hA1 hm2 hg2 hfew hgw hs2 hsrc hb2 hlm
  go_enter Try.func23, Try.ntmps23
  go_wp2_with (at_builtin; refine wpList_append_row _ rfl _ _ rfl _ _ [] ys rfl rfl (.inl ⟨rfl, rfl⟩) HX.out HL.out ?_; intro la cap' w3 hr hg hat; simp only [List.nil_append, List.length_nil, Nat.zero_add] at hr hat
               have hfile3 : w3.heap[w.heap.size]? = some (.cells #[.slice none 0 0, .int .i64 0] 65 (0, 0)) := (hg.block _ HS.out (fun e => by cases e)).trans HF.out
               have q1 : w3.cell? ⟨w.heap.size, 0, none⟩ = some (.slice none 0 0) := by simp [World.cell?, hfile3]
               have q2 : w3.frozen? ⟨w.heap.size, 0, none⟩ = false := by simp [World.frozen?, hfile3]
               have HR1 := Aside0.mk hr; have HG1 := Aside0.mk hg; have HA := Aside0.mk hat; have HF1 := Aside0.mk hfile3; clear hr hg hat hfile3)
  go_end0
  have h := H.out
  have hg : w2.grownBy w3 none := HG1.out
  have ha : (Value.slice la ys.length cap').ownBlock = none ∨ (Value.slice la ys.length cap').ownBlock = some w2.heap.size := HA.out
  have hr : Row w3 (.slice la ys.length cap') ys := HR1.out
  have hgb : ∀ g, (Value.slice la ys.length cap').ownBlock = some g → w.heap.size < g := fun g hg' => by
    have := HS.out
    rcases ha with e | e
    · rw [e] at hg'; cases hg'
    · rw [e] at hg'; cases hg'; omega
  have hs3 : w.heap.size < w3.heap.size := Nat.lt_of_lt_of_le HS.out hg.size
  have hx3 : ∀ k, k < w.heap.size → k ≠ L.m → (w3.setCell ⟨w.heap.size, 0, none⟩ (.slice la ys.length cap')).heap[k]? = w.heap[k]? := fun k hk hkm =>
    ((Below.heap_setCell w3 _ _ k (by show k ≠ w.heap.size; omega)).trans (hg.block k (by have := HS.out; omega) (by simp))).trans (HG.out.block k hk (fun e => hkm (Option.some.inj e)))
  refine ⟨rfl, h.newF HW.out ys (k := st.dir.length + 1) (w' := w3.setCell ⟨w.heap.size, 0, none⟩ (.slice la ys.length cap')) (by simpa using hs3) hgb hx3 ?_ ?_ ?_, ?_⟩
  · simp [World.setCell, Array.getElem?_modify, HF1.out]
  · exact hr.heap fun g hg' => Below.heap_setCell w3 _ _ g (by have := hgb g hg'; show g ≠ w.heap.size; omega)
  · exact (HM.out.kept hg (by simp)).setCell (a := ⟨w.heap.size, 0, none⟩) (by show L.m ≠ w.heap.size; have := h.dir.lt; omega) _
  · exact ⟨hg.os.trans HG.out.os, hg.tape.trans HG.out.tape, hg.output.trans HG.out.output, by have := hs3; simp; omega, fun k hk hn => hx3 k hk (fun e => hn (e ▸ h.fpm))⟩
theorem lay_at (h : At L st fp b w) (hw : Wf st) (n : ByteArray) (hn : n.size ≤ maxLen) (x : Value) (ys : Bs) (hx : Src w x ys) (hl0 : ys.length ≤ 140737488355328) (hl : ∀ i, st.used i → st.len i + ys.length ≤ 140737488355328) (hfew : st.dir.length < maxLen) :
    Calls Try.prog 23 #[.pointer (some ⟨b, 0, none⟩), .string n, x] w fun e w' => e = .returned (.tuple #[]) ∧ Nx (st.lay n.data.toList ys) fp b w w' := by
  cases hf : find st.dir n.data.toList with
  | none => exact lay_none h hw n hn x ys hx hf hl0 hfew
  | some i => exact lay_found h hw n hn x ys hx hf (hl i (used_of_find hf))
end
end Go.Proofs.Ytcaipccgphblnaa.Dk
