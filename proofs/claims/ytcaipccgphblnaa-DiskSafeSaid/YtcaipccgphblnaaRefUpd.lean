/- disk: a file of the document's turned; Sync. -/
import Derived.Test.YtcaipccgphblnaaRefFree
import Derived.StillTailTactics
namespace Go.Proofs.Ytcaipccgphblnaa.Dk
open Go.RowKit Go.WideMaps Go.Proofs.YtcaipccgphblnaaW.PrintWords
set_option linter.unusedSimpArgs false
theorem zip_set {α β : Type} : ∀ (l : List α) (m : List β) (i : Nat) (x : α) (y : β), (l.set i x).zip (m.set i y) = (l.zip m).set i (x, y)
  | [], _, _, _, _ => by simp
  | _ :: _, [], _, _, _ => by simp
  | a :: l, b :: m, 0, x, y => by simp
  | a :: l, b :: m, i + 1, x, y => by simp [zip_set l m i x y]
theorem filed_set (vs : List Value) (fs : List F) (i : Nat) (v : Value) (f : F) : filed (vs.set i v) (fs.set i f) = (filed vs fs).set i (v, .int .i64 (f.safe : Nat)) := by
  unfold filed
  rw [zip_set, List.map_set]
theorem set_self {α : Type} {l : List α} {i : Nat} {x : α} (h : l[i]? = some x) : l.set i x = l := by
  obtain ⟨hi, rfl⟩ := List.getElem?_eq_some_iff.1 h
  exact List.set_getElem_self hi
section
variable {R : RLay} {st : St} {fp : Nat → Prop} {b : Nat} {w : World}
theorem vs_get (h : RAt R st fp b w) {i : Nat} (hi : i < st.files.length) : R.vs[i]? = some (R.v i) := by
  have h1 : i < R.vs.length := by rw [h.len]; exact hi
  simp [RLay.v, h1]
theorem fs_get {i : Nat} (hi : i < st.files.length) : st.files[i]? = some (st.file i) := by simp [St.file, hi]
theorem v_set_same {i : Nat} {v : Value} (hi : i < R.vs.length) : RLay.v { R with vs := R.vs.set i v } i = v := by simp [RLay.v, hi]
theorem v_set_other {i j : Nat} {v : Value} (hij : i ≠ j) : RLay.v { R with vs := R.vs.set i v } j = R.v j := by simp [RLay.v, List.getElem?_set, hij]
/-- How many bytes of a file are safe has turned. -/
theorem RAt.setS (h : RAt R st fp b w) {i : Nat} (hi : i < st.files.length) {g : Nat} (hg : R.fv.ownBlock = some g) {w1 : World} (hd : Below w.heap.size w w1) (s : Nat) :
    RAt R (st.upd i ⟨(st.file i).b, s⟩) (nfp fp w (w1.setCell ⟨g, i * 2 + 1, none⟩ (.int .i64 (s : Nat)))) b (w1.setCell ⟨g, i * 2 + 1, none⟩ (.int .i64 (s : Nat))) ∧ Fr fp w (w1.setCell ⟨g, i * 2 + 1, none⟩ (.int .i64 (s : Nat))) := by
  have h1 := h.below hd
  have hne : ∀ k, k ≠ g → (w1.setCell ⟨g, i * 2 + 1, none⟩ (.int .i64 (s : Nat))).heap[k]? = w1.heap[k]? := fun k hk => Below.heap_setCell _ _ _ k hk
  have hlen : (st.upd i ⟨(st.file i).b, s⟩).files.length = st.files.length := by simp [St.upd]
  have hs := hd.size
  refine ⟨?_, (Fr.of_below hd).setCell (.inl (h.fpf g hg)) _⟩
  refine { cells := (hne b (h.bf hg).symm).trans h1.cells, len := by rw [hlen]; exact h.len, files := ?_, dir := h1.dir.heap fun k hk => hne k (fun e => h.fd hk (e ▸ hg)), sdir := h1.sdir.heap fun k hk => hne k (fun e => h.fs hk (e ▸ hg)), row := ?_, sep := by rw [hlen]; exact h.sep, dsep := h.dsep, fpb := .inl h.fpb, fpf := fun k hk => .inl (h.fpf k hk), fpd := fun k hk => .inl (h.fpd k hk), fps := fun k hk => .inl (h.fps k hk), fpr := by rw [hlen]; exact fun j hj k hk => .inl (h.fpr j hj k hk), fpl := fun k hk => hk.elim (fun e => by have := h.fpl k e; simp; omega) (fun e => e.2) }
  · have hget := filed_get h.len hi
    have e := filed_set R.vs st.files i (R.v i) ⟨(st.file i).b, s⟩
    rw [set_self (vs_get h hi)] at e
    show SRow _ 87 R.fv (filed R.vs (st.files.set i ⟨(st.file i).b, s⟩))
    rw [e]
    exact h1.files.set hg hget (by simp) _ (by rw [filed_length _ _ h.len]; omega) (flat_set1 _ i _ _ hget _)
  · intro j hj
    rw [hlen] at hj
    have hb : ((st.upd i ⟨(st.file i).b, s⟩).file j).b = (st.file j).b := by
      by_cases e : i = j
      · subst e; rw [file_upd_same hi]
      · rw [file_upd_other e]
    rw [hb]
    exact BRow.heap (h1.row j hj) fun k hk => hne k (fun e => h.fr hj hk (e ▸ hg))
/-- The slice of a file's bytes has turned: its old row, or a new one. -/
theorem RAt.setB (h : RAt R st fp b w) {i : Nat} (hi : i < st.files.length) {g : Nat} (hg : R.fv.ownBlock = some g) {w1 : World} {v' : Value} {bs : Bs} (hgr : w.grownBy w1 (R.v i).ownBlock) (hr : BRow w1 v' bs)
    (hv : v'.ownBlock = (R.v i).ownBlock ∨ ∀ k, v'.ownBlock = some k → w.heap.size ≤ k) :
    RAt { R with vs := R.vs.set i v' } (st.upd i ⟨bs, (st.file i).safe⟩) (nfp fp w (w1.setCell ⟨g, i * 2, none⟩ v')) b (w1.setCell ⟨g, i * 2, none⟩ v') ∧ Fr fp w (w1.setCell ⟨g, i * 2, none⟩ v') := by
  have hne : ∀ k, k ≠ g → (w1.setCell ⟨g, i * 2, none⟩ v').heap[k]? = w1.heap[k]? := fun k hk => Below.heap_setCell _ _ _ k hk
  have hlen : (st.upd i ⟨bs, (st.file i).safe⟩).files.length = st.files.length := by simp [St.upd]
  have hs := hgr.size
  have hvl : i < R.vs.length := by rw [h.len]; exact hi
  have keep : ∀ k, k < w.heap.size → (∀ q, (R.v i).ownBlock = some q → q ≠ k) → w1.heap[k]? = w.heap[k]? := fun k h1 h2 => hgr.block k h1 (fun e => h2 k e.symm rfl)
  have hvk : ∀ k, v'.ownBlock = some k → (R.v i).ownBlock = some k ∨ w.heap.size ≤ k := fun k hk => hv.elim (fun e => .inl (e ▸ hk)) (fun e => .inr (e k hk))
  have hgl := h.files.lt hg
  have hvg : ∀ k, v'.ownBlock = some k → k ≠ g := fun k hk e => by
    rcases hvk k hk with h1 | h1
    · exact h.fr hi h1 (e ▸ hg)
    · omega
  refine ⟨?_, (Fr.of_grownBy hgr (fun k e => h.fpr i hi k e)).setCell (.inl (h.fpf g hg)) _⟩
  refine { cells := ?_, len := by rw [hlen]; simpa using h.len, files := ?_, dir := ?_, sdir := ?_, row := ?_, sep := ?_, dsep := h.dsep, fpb := .inl h.fpb, fpf := fun k hk => .inl (h.fpf k hk), fpd := fun k hk => .inl (h.fpd k hk), fps := fun k hk => .inl (h.fps k hk), fpr := ?_, fpl := fun k hk => hk.elim (fun e => by have := h.fpl k e; simp; omega) (fun e => e.2) }
  · exact (hne b (h.bf hg).symm).trans ((keep b h.lt_b (fun q hq => h.br hi hq)).trans h.cells)
  · have hget := filed_get h.len hi
    have e := filed_set R.vs st.files i v' ⟨bs, (st.file i).safe⟩
    show SRow _ 87 R.fv (filed (R.vs.set i v') (st.files.set i ⟨bs, (st.file i).safe⟩))
    rw [e]
    have h1 : SRow w1 87 R.fv (filed R.vs st.files) := h.files.heap fun k hk => keep k (h.files.lt hk) (fun q hq e => h.fr hi hq (e ▸ hk))
    exact h1.set hg hget (by simp) _ (by rw [filed_length _ _ h.len]; omega) (flat_set0 _ i _ _ hget _)
  · exact h.dir.heap fun k hk => (hne k (fun e => h.fd hk (e ▸ hg))).trans (keep k (h.dir.lt hk) (fun q hq e => h.rd hi hq (e ▸ hk)))
  · exact h.sdir.heap fun k hk => (hne k (fun e => h.fs hk (e ▸ hg))).trans (keep k (h.sdir.lt hk) (fun q hq e => h.rs hi hq (e ▸ hk)))
  · intro j hj
    rw [hlen] at hj
    by_cases e : i = j
    · subst e
      rw [v_set_same hvl, file_upd_same hi]
      exact BRow.heap hr fun k hk => hne k (hvg k hk)
    · rw [v_set_other e, file_upd_other e]
      exact BRow.heap (h.row j hj) fun k hk => (hne k (fun e' => h.fr hj hk (e' ▸ hg))).trans (keep k (BRow.lt (h.row j hj) hk) (fun q hq e' => h.sep i j hi hj e q hq (e' ▸ hk)))
  · rw [hlen]
    intro j k hj hk hjk q hq
    by_cases ej : i = j
    · subst ej
      rw [v_set_same hvl] at hq
      rw [v_set_other hjk]
      intro hq'
      rcases hvk q hq with h1 | h1
      · exact h.sep i k hi hk hjk q h1 hq'
      · have := BRow.lt (h.row k hk) hq'; omega
    · rw [v_set_other ej] at hq
      by_cases ek : i = k
      · subst ek
        rw [v_set_same hvl]
        intro hq'
        rcases hvk q hq' with h1 | h1
        · exact h.sep j i hj hi hjk q hq h1
        · have := BRow.lt (h.row j hj) hq; omega
      · rw [v_set_other ek]; exact h.sep j k hj hk hjk q hq
  · rw [hlen]
    intro j hj k hk
    by_cases e : i = j
    · subst e
      rw [v_set_same hvl] at hk
      rcases hvk k hk with h1 | h1
      · exact .inl (h.fpr i hi k h1)
      · exact .inr ⟨h1, by simpa using BRow.lt hr hk⟩
    · rw [v_set_other e] at hk; exact .inl (h.fpr j hj k hk)
/-- What a walk reads of a file. -/
theorem RAt.fileAt (h : RAt R st fp b w) {i : Nat} (hi : i < st.files.length) : ∃ g cap ra rcap, R.fv = .slice (some ⟨g, 0, none⟩) st.files.length cap ∧ R.v i = .slice ra (st.file i).b.length rcap ∧ st.files.length ≤ cap ∧ cap ≤ maxLen ∧ (st.file i).b.length ≤ rcap ∧ rcap ≤ maxLen ∧
    w.cell? ⟨b, 1, none⟩ = some (.slice (some ⟨g, 0, none⟩) st.files.length cap) ∧ w.cell? ⟨g, i * 2, none⟩ = some (.slice ra (st.file i).b.length rcap) ∧ w.cell? ⟨g, i * 2 + 1, none⟩ = some (.int .i64 ((st.file i).safe : Nat)) ∧ w.frozen? ⟨g, i * 2, none⟩ = false ∧ w.frozen? ⟨g, i * 2 + 1, none⟩ = false := by
  obtain ⟨g, cap, cur, hv, _, q0, q1, f0, f1, l1, l2⟩ := h.files.at (filed_get h.len hi)
  rw [filed_length _ _ h.len] at hv l1
  obtain ⟨ra, rcap, hrv, m1, m2⟩ := (h.row i hi).form
  exact ⟨g, cap, ra, rcap, hv, hrv, l1, l2, m1, m2, by rw [← hv]; simp [World.cell?, h.cells, RCells], by rw [← hrv]; exact q0, q1, f0, f1⟩
end
end Go.Proofs.Ytcaipccgphblnaa.Dk
