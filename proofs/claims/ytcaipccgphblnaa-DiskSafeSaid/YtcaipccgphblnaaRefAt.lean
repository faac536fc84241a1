/- disk: how the document's disk lies in memory. -/
import Derived.Test.YtcaipccgphblnaaLink
namespace Go.Proofs.Ytcaipccgphblnaa.Dk
open Go.RowKit Go.WideMaps Go.Proofs.YtcaipccgphblnaaW.PrintWords
set_option linter.unusedSimpArgs false
/-- The document's Disk's own block. -/
def RCells (room : Int) (f d s : Value) (failing : Bool) (left : Int) (torn : Bool) : Obj :=
  .cells #[.int .i64 room, f, d, s, .bool failing, .int .i64 left, .bool torn] 48 (0, 0)
/-- A slice of bytes of its own. -/
def BRow (w : World) (v : Value) (xs : Bs) : Prop := w.ownsRow 0 5 1 v xs.length (xs.map bv)
theorem BRow.nil (w : World) : BRow w (.slice none 0 0) [] := World.ownsRow_nil w 0 5 1
theorem BRow.heap {w w' : World} {v : Value} {xs : Bs} (h : BRow w v xs) (hk : ∀ g, v.ownBlock = some g → w'.heap[g]? = w.heap[g]?) : BRow w' v xs := by
  refine ⟨h.1, ?_⟩
  rcases h.2 with h0 | ⟨g, cap, cur, rfl, h1, hg, r⟩
  · exact .inl h0
  · exact .inr ⟨g, cap, cur, rfl, h1, (hk g rfl).trans hg, r⟩
theorem BRow.block {w : World} {v : Value} {xs : Bs} (h : BRow w v xs) {g : Nat} (hg : v.ownBlock = some g) : ∃ cur, w.heap[g]? = some (.cells cur 5 (0, 0)) := by
  rcases h.2 with ⟨rfl, _⟩ | ⟨g', cap, cur, rfl, _, hg', r⟩
  · cases hg
  · cases hg; exact ⟨_, hg'⟩
theorem BRow.lt {w : World} {v : Value} {xs : Bs} (h : BRow w v xs) {g : Nat} (hg : v.ownBlock = some g) : g < w.heap.size := (World.ownsRow.lt h g hg).2
theorem BRow.form {w : World} {v : Value} {xs : Bs} (h : BRow w v xs) : ∃ a cap, v = .slice a xs.length cap ∧ xs.length ≤ cap ∧ cap ≤ maxLen := by
  rcases h.2 with ⟨rfl, h0⟩ | ⟨g', cap, cur, rfl, _, _, h1, h2, _⟩
  · exact ⟨none, 0, by rw [h0], by omega, Nat.zero_le _⟩
  · exact ⟨_, cap, rfl, h1, h2⟩
theorem BRow.row {w : World} {v : Value} {xs : Bs} (h : BRow w v xs) : Row w v xs := by
  rcases h.2 with ⟨rfl, h0⟩ | ⟨g', cap, cur, rfl, _, hg, h1, h2, h3, h4⟩
  · exact .inl ⟨rfl, List.eq_nil_of_length_eq_zero h0⟩
  · exact .inr ⟨g', cap, cur, rfl, hg, h1, h2, .inl (by simpa using h3), by simpa using h4⟩
structure RLay where
  fv : Value
  dv : Value
  sv : Value
  vs : List Value
def RLay.v (R : RLay) (i : Nat) : Value := R.vs.getD i (.slice none 0 0)
/-- The files, as they lie: of each the slice of its bytes, how many are safe. -/
def filed (vs : List Value) (fs : List F) : List (Value × Value) := (vs.zip fs).map fun p => (p.1, .int .i64 (p.2.safe : Nat))
structure RAt (R : RLay) (st : St) (fp : Nat → Prop) (b : Nat) (w : World) : Prop where
  cells : w.heap[b]? = some (RCells st.room R.fv R.dv R.sv st.failing st.left st.torn)
  len : R.vs.length = st.files.length
  files : SRow w 87 R.fv (filed R.vs st.files)
  dir : SRow w 53 R.dv (links st.dir)
  sdir : SRow w 53 R.sv (links st.safe)
  row : ∀ i, i < st.files.length → BRow w (R.v i) (st.file i).b
  sep : ∀ i j, i < st.files.length → j < st.files.length → i ≠ j → ∀ g, (R.v i).ownBlock = some g → (R.v j).ownBlock ≠ some g
  dsep : ∀ g, R.dv.ownBlock = some g → R.sv.ownBlock ≠ some g
  fpb : fp b
  fpf : ∀ g, R.fv.ownBlock = some g → fp g
  fpd : ∀ g, R.dv.ownBlock = some g → fp g
  fps : ∀ g, R.sv.ownBlock = some g → fp g
  fpr : ∀ i, i < st.files.length → ∀ g, (R.v i).ownBlock = some g → fp g
  fpl : ∀ k, fp k → k < w.heap.size
/-- Behind a call. -/
def RNx (st' : St) (fp : Nat → Prop) (b : Nat) (w w' : World) : Prop := (∃ R', RAt R' st' (nfp fp w w') b w') ∧ Fr fp w w'
theorem filed_length (vs : List Value) (fs : List F) (h : vs.length = fs.length) : (filed vs fs).length = fs.length := by simp [filed, h]
theorem filed_get {vs : List Value} {fs : List F} {i : Nat} (h : vs.length = fs.length) (hi : i < fs.length) : (filed vs fs)[i]? = some (vs.getD i (.slice none 0 0), .int .i64 ((((fs[i]?).getD ⟨[], 0⟩).safe : Nat) : Int)) := by
  have h1 : i < vs.length := by omega
  simp [filed, List.getElem?_zip_eq_some, h1, hi]
  exact ⟨_, _, ⟨rfl, rfl⟩, rfl, rfl⟩
section
variable {R : RLay} {st : St} {fp : Nat → Prop} {b : Nat} {w : World}
theorem RAt.keep (h : RAt R st fp b w) {w' : World} (hs : w.heap.size ≤ w'.heap.size) (hk : ∀ k, fp k → w'.heap[k]? = w.heap[k]?) : RAt R st fp b w' :=
  { h with
    cells := (hk b h.fpb).trans h.cells
    files := h.files.heap fun g hg => hk g (h.fpf g hg)
    dir := h.dir.heap fun g hg => hk g (h.fpd g hg)
    sdir := h.sdir.heap fun g hg => hk g (h.fps g hg)
    row := fun i hi => (h.row i hi).heap fun g hg => hk g (h.fpr i hi g hg)
    fpl := fun k hk' => Nat.lt_of_lt_of_le (h.fpl k hk') hs }
theorem RAt.mono (h : RAt R st fp b w) {fp' : Nat → Prop} (hf : ∀ k, fp k → fp' k) (hl : ∀ k, fp' k → k < w.heap.size) : RAt R st fp' b w :=
  { h with fpb := hf _ h.fpb, fpf := fun g hg => hf _ (h.fpf g hg), fpd := fun g hg => hf _ (h.fpd g hg), fps := fun g hg => hf _ (h.fps g hg), fpr := fun i hi g hg => hf _ (h.fpr i hi g hg), fpl := hl }
theorem RAt.below (h : RAt R st fp b w) {w' : World} (hb : Below w.heap.size w w') : RAt R st fp b w' := h.keep hb.size fun k hk => hb.block k (h.fpl k hk)
theorem RAt.nf (h : RAt R st fp b w) {w0 : World} (hs : w0.heap.size ≤ w.heap.size) (hf : ∀ k, fp k → k < w0.heap.size) : RAt R st (nfp fp w0 w) b w :=
  h.mono (fun k hk => .inl hk) (fun k hk => hk.elim (h.fpl k) (fun e => e.2))
theorem rnx_trans {st2 : St} {w1 w2 : World} (h1 : Fr fp w w1) (h2 : RNx st2 (nfp fp w w1) b w1 w2) : RNx st2 fp b w w2 := by
  obtain ⟨⟨L', hA⟩, hF⟩ := h2
  refine ⟨⟨L', hA.mono (nfp_nfp h1.size hF.size) (fun k hk => ?_)⟩, h1.trans hF (fun i hi hk => ?_)⟩
  · exact hk.elim (fun e => hA.fpl k (.inl (.inl e))) (fun e => e.2)
  · exact hk.elim id (fun e => by omega)
theorem rnx_fr {wb w' : World} {st' : St} (hb : Fr fp w wb) (hx : RNx st' fp b wb w') : RNx st' fp b w w' := by
  refine rnx_trans hb ⟨?_, ⟨hx.2.os, hx.2.tape, hx.2.output, hx.2.size, fun k h1 h2 => hx.2.block k h1 (fun e => h2 (.inl e))⟩⟩
  obtain ⟨⟨L', hA'⟩, hF⟩ := hx
  exact ⟨L', hA'.mono (fun k hk => hk.elim (fun e => .inl (.inl e)) .inr) (fun k hk => hk.elim (fun e => e.elim (fun e => hA'.fpl k (.inl e)) (fun e => Nat.lt_of_lt_of_le e.2 hF.size)) (fun e => e.2))⟩
theorem RAt.lt_b (h : RAt R st fp b w) : b < w.heap.size := (Array.getElem?_eq_some_iff.1 h.cells).1
theorem RAt.bf (h : RAt R st fp b w) {g : Nat} (hg : R.fv.ownBlock = some g) : g ≠ b := fun e => by
  obtain ⟨cur, hc⟩ := h.files.block hg
  rw [e, h.cells] at hc; simp [RCells] at hc
theorem RAt.bd (h : RAt R st fp b w) {g : Nat} (hg : R.dv.ownBlock = some g) : g ≠ b := fun e => by
  obtain ⟨cur, hc⟩ := h.dir.block hg
  rw [e, h.cells] at hc; simp [RCells] at hc
theorem RAt.bs (h : RAt R st fp b w) {g : Nat} (hg : R.sv.ownBlock = some g) : g ≠ b := fun e => by
  obtain ⟨cur, hc⟩ := h.sdir.block hg
  rw [e, h.cells] at hc; simp [RCells] at hc
theorem RAt.br (h : RAt R st fp b w) {i : Nat} (hi : i < st.files.length) {g : Nat} (hg : (R.v i).ownBlock = some g) : g ≠ b := fun e => by
  obtain ⟨cur, hc⟩ := (h.row i hi).block hg
  rw [e, h.cells] at hc; simp [RCells] at hc
theorem RAt.fr (h : RAt R st fp b w) {i : Nat} (hi : i < st.files.length) {g : Nat} (hg : (R.v i).ownBlock = some g) : R.fv.ownBlock ≠ some g := fun e => by
  obtain ⟨cur, hc⟩ := (h.row i hi).block hg
  obtain ⟨cur', hc'⟩ := h.files.block e
  rw [hc] at hc'; simp at hc'
theorem RAt.fd (h : RAt R st fp b w) {g : Nat} (hg : R.dv.ownBlock = some g) : R.fv.ownBlock ≠ some g := fun e => by
  obtain ⟨cur, hc⟩ := h.dir.block hg
  obtain ⟨cur', hc'⟩ := h.files.block e
  rw [hc] at hc'; simp at hc'
theorem RAt.fs (h : RAt R st fp b w) {g : Nat} (hg : R.sv.ownBlock = some g) : R.fv.ownBlock ≠ some g := fun e => by
  obtain ⟨cur, hc⟩ := h.sdir.block hg
  obtain ⟨cur', hc'⟩ := h.files.block e
  rw [hc] at hc'; simp at hc'
theorem RAt.rd (h : RAt R st fp b w) {i : Nat} (hi : i < st.files.length) {g : Nat} (hg : (R.v i).ownBlock = some g) : R.dv.ownBlock ≠ some g := fun e => by
  obtain ⟨cur, hc⟩ := (h.row i hi).block hg
  obtain ⟨cur', hc'⟩ := h.dir.block e
  rw [hc] at hc'; simp at hc'
theorem RAt.rs (h : RAt R st fp b w) {i : Nat} (hi : i < st.files.length) {g : Nat} (hg : (R.v i).ownBlock = some g) : R.sv.ownBlock ≠ some g := fun e => by
  obtain ⟨cur, hc⟩ := (h.row i hi).block hg
  obtain ⟨cur', hc'⟩ := h.sdir.block e
  rw [hc] at hc'; simp at hc'
/-- The Disk's own cells have turned: its flags, and which rows are its directories. -/
theorem RAt.turn (h : RAt R st fp b w) {w' : World} {f' : Bool} {l' : Int} {t' : Bool} (hb : But b w w') (hc : w'.heap[b]? = some (RCells st.room R.fv R.dv R.sv f' l' t')) :
    RAt R { st with failing := f', left := l', torn := t' } fp b w' :=
  { cells := hc
    len := h.len
    files := h.files.heap fun g hg => hb.block g (h.bf hg)
    dir := h.dir.heap fun g hg => hb.block g (h.bd hg)
    sdir := h.sdir.heap fun g hg => hb.block g (h.bs hg)
    row := fun i hi => BRow.heap (h.row i hi) fun g hg => hb.block g (h.br hi hg)
    sep := h.sep
    dsep := h.dsep
    fpb := h.fpb
    fpf := h.fpf
    fpd := h.fpd
    fps := h.fps
    fpr := h.fpr
    fpl := fun k hk => by rw [hb.size]; exact h.fpl k hk }
theorem ref_may (h : RAt R st fp b w) (hw : Wf st) :
    Calls Try.prog 50 #[.pointer (some ⟨b, 0, none⟩)] w fun e w' => e = .returned (.tuple #[.bool st.ok, .bool st.first]) ∧ RAt R st.may fp b w' ∧ But b w w' := by
  have hl := hw.left
  have hh := h.cells
  have c4 : w.cell? ⟨b, 4, none⟩ = some (.bool st.failing) := by simp [World.cell?, hh, RCells]
  have c5 : w.cell? ⟨b, 5, none⟩ = some (.int .i64 st.left) := by simp [World.cell?, hh, RCells]
  have c6 : w.cell? ⟨b, 6, none⟩ = some (.bool st.torn) := by simp [World.cell?, hh, RCells]
  have f5 : w.frozen? ⟨b, 5, none⟩ = false := by simp [World.frozen?, hh, RCells]
  have f6 : w.frozen? ⟨b, 6, none⟩ = false := by simp [World.frozen?, hh, RCells]
  suffices H : Calls Try.prog 50 #[.pointer (some ⟨b, 0, none⟩)] w fun e w' => e = .returned (.tuple #[.bool (mayS st.failing st.left st.torn).1.1, .bool (mayS st.failing st.left st.torn).1.2]) ∧
      w'.heap[b]? = some (RCells st.room R.fv R.dv R.sv st.failing (mayS st.failing st.left st.torn).2.1 (mayS st.failing st.left st.torn).2.2) ∧ But b w w' from
    H.mono fun e w' ⟨he, hc, hb⟩ => ⟨he, h.turn hb hc, hb⟩
  obtain ⟨room, files, dir, safe, failing, left, torn⟩ := st
  simp only at *
  have HH := Aside0.mk hh
  clear hh h hw
  by_cases hf : failing = false
  · subst hf
    go_enter Try.func50, Try.ntmps50
    go_wp2_with (fail)
    go_ret2
    exact ⟨rfl, HH.out, But.refl _ _⟩
  · obtain rfl : failing = true := by simpa using hf
    by_cases h0 : left > 0
    · have hm : mayS true left torn = ((true, false), (left - 1, torn)) := by simp [mayS, h0]
      rw [hm]
      have d0 : decide (0 < left) = true := decide_eq_true h0
      have HW := Aside0.mk (show wrap64 (left - 1) = left - 1 by unfold wrap64; omega)
      clear h0 hm hf
      go_enter Try.func50, Try.ntmps50
      go_wp2_with (fail)
      go_ret2
      refine ⟨rfl, ?_, (But.refl b w).setCell 5 _⟩
      rw [HW.out]
      simp [World.setCell, Array.getElem?_modify, HH.out, RCells]
    · have hm : mayS true left torn = ((false, !torn), (left, true)) := by simp [mayS, h0]
      rw [hm]
      have d0 : decide (0 < left) = false := decide_eq_false h0
      clear h0 hm hf
      go_enter Try.func50, Try.ntmps50
      go_wp2_with (fail)
      go_ret2
      refine ⟨rfl, ?_, (But.refl b w).setCell 6 _⟩
      simp [World.setCell, Array.getElem?_modify, HH.out, RCells]
theorem ref_fail (h : RAt R st fp b w) (n : Int) :
    Calls Try.prog 42 #[.pointer (some ⟨b, 0, none⟩), .int .i64 n] w fun e w' => e = .returned (.tuple #[]) ∧ RNx (st.fail n) fp b w w' := by
  have hh := h.cells
  have c4 : w.cell? ⟨b, 4, none⟩ = some (.bool st.failing) := by simp [World.cell?, hh, RCells]
  have c5 : w.cell? ⟨b, 5, none⟩ = some (.int .i64 st.left) := by simp [World.cell?, hh, RCells]
  have c6 : w.cell? ⟨b, 6, none⟩ = some (.bool st.torn) := by simp [World.cell?, hh, RCells]
  have f4 : w.frozen? ⟨b, 4, none⟩ = false := by simp [World.frozen?, hh, RCells]
  have f5 : w.frozen? ⟨b, 5, none⟩ = false := by simp [World.frozen?, hh, RCells]
  have f6 : w.frozen? ⟨b, 6, none⟩ = false := by simp [World.frozen?, hh, RCells]
  have HH := Aside0.mk hh
  have HA := Aside0.mk h
  clear hh h
  go_enter Try.func42, Try.ntmps42
  go_wp2_with (fail)
  go_end0
  have hb := (((But.refl b w).setCell 4 (.bool true)).setCell 5 (.int .i64 n)).setCell 6 (.bool false)
  refine ⟨rfl, ⟨R, (HA.out.turn hb ?_).nf (Nat.le_of_eq hb.size.symm) HA.out.fpl⟩, Fr.of_but hb HA.out.fpb⟩
  simp [World.setCell, Array.getElem?_modify, HH.out, RCells]
end
end Go.Proofs.Ytcaipccgphblnaa.Dk
