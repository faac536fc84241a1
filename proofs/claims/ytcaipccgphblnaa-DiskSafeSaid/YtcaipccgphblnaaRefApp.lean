/- disk: 'append' in the document's disk: a file's bytes, a new file. -/
import Derived.Test.YtcaipccgphblnaaRefSync
import Derived.Deep.AppendLies
namespace Go.Proofs.Ytcaipccgphblnaa.Dk
open Go.RowKit Go.WideMaps Go.Proofs.YtcaipccgphblnaaW.PrintWords
set_option linter.unusedSimpArgs false
/-- 'append(v, x...)' to a row of one's own. -/
theorem brow_append (ty : TypeId) (w : World) (v x : Value) (xs ys : Bs) (h : BRow w v xs) (hx : Src w x ys) (hl : xs.length + ys.length ≤ 140737488355328) :
    ∃ v' w', (Builtin.append_ #[29, 29] ty #[v, x]).run Try.prog w = .ok v' w' ∧ BRow w' v' (xs ++ ys) ∧ w.grownBy w' v.ownBlock ∧ (v'.ownBlock = v.ownBlock ∨ v'.ownBlock = some w.heap.size) := by
  obtain ⟨i0, hi, hz0, hz1, hz2⟩ := info_parts info5
  rcases hx with ⟨rfl, rfl⟩ | ⟨a, c, rfl, hcp, ha⟩
  · rw [List.append_nil]
    rcases h.2 with ⟨rfl, h0⟩ | ⟨g, cap, cur, rfl, _, hg, h1, h2, h3, h4⟩
    · refine ⟨.slice none 0 0, w, ?_, h, ⟨rfl, rfl, rfl, Nat.le_refl _, fun _ _ _ => rfl⟩, .inl rfl⟩
      simp [Builtin.append_, run_underlying Try.underlying29, sizeOf, typeInfo, hi, Builtin.lenOf, Builtin.firstCells, loadCells, loadCellsFrom]
    · refine ⟨_, w, ?_, h, ⟨rfl, rfl, rfl, Nat.le_refl _, fun _ _ _ => rfl⟩, .inl rfl⟩
      simp [Builtin.append_, run_underlying Try.underlying29, sizeOf, typeInfo, hi, Builtin.lenOf, Builtin.firstCells, loadCells, loadCellsFrom, storeCells, h1]
  · have hnews : ∀ j u, (ys.map bv)[j]? = some u → w.cell? (a.add j) = some u := fun j u hu => by
      rw [List.getElem?_map] at hu
      cases hj : ys[j]? with
      | none => rw [hj] at hu; cases hu
      | some d => rw [hj] at hu; cases hu; exact ha j d hj
    obtain ⟨v', w', hr, hown, hgr, _, hfr⟩ := run_append_own_at (P := Try.prog) w 0 29 ty 5 i0 (.int .u8 0) 1 1 Try.underlying29 hi hz0 hz1 hz2 rfl (by decide) v xs.length (xs.map bv) h a ys.length c (ys.map bv) (by simp) hnews (by simp [Value.oneCell'])
      (by simp only [maxLen]; omega) (by omega) (Nat.zero_le _)
    refine ⟨v', w', hr, ?_, hgr, hfr⟩
    unfold BRow
    rw [List.map_append, List.length_append]
    exact hown
theorem brow_made (w : World) : BRow (w.alloc (.cells #[] 5)) (.slice (some ⟨w.heap.size, 0, none⟩) 0 0) [] := World.ownsRow_made w #[] 0 (Nat.zero_le _) (Nat.zero_le _) rfl
theorem info87 : (Try.prog.info? 87).map (fun i => (i.zero, i.size, i.bytes)) = some (some (.agg #[.slice none 0 0, .int .i64 0]), 2, 32) := by kernel_rfl
/-- A new file behind the files. -/
theorem files_append (ty : TypeId) (w : World) (v : Value) (xs : List (Value × Value)) (g : Nat) (h : SRow w 87 v xs) (hg : w.heap[g]? = some (.cells #[.slice none 0 0, .int .i64 0] 87 (0, 0))) (hl : xs.length ≤ 1000000) :
    ∃ v' w', (Builtin.append_ #[45, 45] ty #[v, .slice (some ⟨g, 0, none⟩) 1 1]).run Try.prog w = .ok v' w' ∧ SRow w' 87 v' (xs ++ [(.slice none 0 0, .int .i64 0)]) ∧ w.grownBy w' v.ownBlock ∧ (v'.ownBlock = v.ownBlock ∨ v'.ownBlock = some w.heap.size) := by
  obtain ⟨i0, hi, hz0, hz1, hz2⟩ := info_parts info87
  obtain ⟨v', w', hr, hown, hgr, _, hfr⟩ := run_append_own_at (P := Try.prog) w 0 45 ty 87 i0 _ 2 32 Try.underlying45 hi hz0 hz1 hz2 rfl (by decide) v xs.length (flat xs) h ⟨g, 0, none⟩ 1 1 [.slice none 0 0, .int .i64 0] (by simp) (by
      intro j u hu
      have hadd : (⟨g, 0, none⟩ : Addr).add j = ⟨g, j, none⟩ := by unfold Addr.add; split <;> simp_all
      rw [hadd, cell_of_row w g j _ 87 (0, 0) hg]
      simpa using hu) (by simp [Value.oneCell'])
    (by simp only [maxLen]; omega) (by omega) (Nat.zero_le _)
  refine ⟨v', w', hr, ?_, hgr, hfr⟩
  unfold SRow
  rw [flat_append, List.length_append]
  exact hown
/-- 'append' at the operation, its run known. -/
theorem wpList_append_run {ops : Array Oper} {rest : List Oper} {o : Oper} {a : Act} {Q : Exit → Act → World → Prop} (w : World) (hgd : o.guard = none) (s x : Operand) (t : TypeId)
    (ho : o.op = .call { callee := .builtin .append, args := #[s, x], argTypes := #[t, t] }) (v xv v' : Value) (w' : World) (hs : a.eval s = v) (hx : a.eval x = xv)
    (hr : (Builtin.append_ #[t, t] o.type #[v, xv]).run Try.prog w = .ok v' w') (hK : wpList Try.prog ops Q rest (a.put o.dst v') w') : wpList Try.prog ops Q (o :: rest) a w := by
  refine wpList_plain hgd fun K hKK => ?_
  unfold Oper.wp execOp
  simp only [ho, resolve, invoke, builtin, Sem.run_bind, Sem.run_pure, Result.andThen_ok, List.map_toArray, List.map_cons, List.map_nil, hs, hx, hr]
  exact hKK _ _ hK
theorem step_append_run {ops : Array Oper} {o : Oper} {a : Act} {w : World} {K : Act → World → Prop} {Q : Exit → Act → World → Prop} {E : Prop} (hgd : o.guard = none) (s x : Operand) (t : TypeId)
    (ho : o.op = .call { callee := .builtin .append, args := #[s, x], argTypes := #[t, t] }) (v xv v' : Value) (w' : World) (hs : a.eval s = v) (hx : a.eval x = xv)
    (hr : (Builtin.append_ #[t, t] o.type #[v, xv]).run Try.prog w = .ok v' w') (hK : K (a.put o.dst v') w') : if Region.wanted o (yielded ops a.tmps) = true then Oper.wp Try.prog o a w K Q else E := by
  have hw : Region.wanted o (yielded ops a.tmps) = true := by simp [Region.wanted, hgd]
  rw [if_pos hw]
  unfold Oper.wp execOp
  simp only [ho, resolve, invoke, builtin, Sem.run_bind, Sem.run_pure, Result.andThen_ok, List.map_toArray, List.map_cons, List.map_nil, hs, hx, hr]
  exact hK
/-- A piece of code that comes to one end. -/
theorem wp_to {P : Program} {c : Code} {Q' : Exit → Act → World → Prop} {a : Act} {w : World} (A : Act) (W : World) (h : c.wp P (fun e a w => match e with | .normal => a = A ∧ w = W | _ => False) a w) (hq : Q' .normal A W) : c.wp P Q' a w :=
  Code.wp_mono (fun e a w h => by cases e <;> first | exact h.elim | (obtain ⟨rfl, rfl⟩ := h; exact hq)) h
theorem upd_upd (st : St) (i : Nat) (f g : F) : (st.upd i f).upd i g = st.upd i g := by simp [St.upd]
theorem filed_snoc {vs : List Value} {fs : List F} (h : vs.length = fs.length) (v : Value) (f : F) : filed (vs ++ [v]) (fs ++ [f]) = filed vs fs ++ [(v, .int .i64 (f.safe : Nat))] := by
  unfold filed
  rw [List.zip_append h, List.map_append]; rfl
theorem grown_alloc {w : World} (o : Obj) {w1 : World} {r : Option Nat} (h : (w.alloc o).grownBy w1 r) : w.grownBy w1 r :=
  ⟨h.os, h.tape, h.output, by have := h.size; simp at this; omega, fun k hk hne => (h.block k (by simp; omega) hne).trans (Below.heap_alloc _ _ _ hk)⟩
theorem grown_drew {w : World} {w1 : World} {r : Option Nat} (h : w.drew.grownBy w1 r) : w.grownBy w1 r := ⟨h.os, h.tape, h.output, h.size, h.block⟩
theorem grown_of_below {w w1 : World} (h : Below w.heap.size w w1) (r : Option Nat) : w.grownBy w1 r := ⟨h.os, h.tape, h.output, h.size, fun k hk _ => h.block k hk⟩
section
variable {R : RLay} {st : St} {fp : Nat → Prop} {b : Nat} {w : World}
theorem RAt.addF (h : RAt R st fp b w) {w1 : World} {v' : Value} (hgr : w.grownBy w1 R.fv.ownBlock) (hr : SRow w1 87 v' (filed R.vs st.files ++ [(.slice none 0 0, .int .i64 0)]))
    (hv : v'.ownBlock = R.fv.ownBlock ∨ ∀ k, v'.ownBlock = some k → w.heap.size ≤ k) :
    RAt { R with fv := v', vs := R.vs ++ [.slice none 0 0] } { st with files := st.files ++ [⟨[], 0⟩] } (nfp fp w (w1.setCell ⟨b, 1, none⟩ v')) b (w1.setCell ⟨b, 1, none⟩ v') ∧ Fr fp w (w1.setCell ⟨b, 1, none⟩ v') := by
  have hne : ∀ k, k ≠ b → (w1.setCell ⟨b, 1, none⟩ v').heap[k]? = w1.heap[k]? := fun k hk => Below.heap_setCell _ _ _ k hk
  have hs := hgr.size
  have hb := h.lt_b
  have keep : ∀ k, k < w.heap.size → (∀ q, R.fv.ownBlock = some q → q ≠ k) → w1.heap[k]? = w.heap[k]? := fun k h1 h2 => hgr.block k h1 (fun e => h2 k e.symm rfl)
  have hvb : ∀ k, v'.ownBlock = some k → k ≠ b := fun k hk e => by
    rcases hv with hv | hv
    · rw [hv] at hk; exact h.bf hk e
    · have := hv k hk; omega
  have vold : ∀ i, i < st.files.length → RLay.v { R with fv := v', vs := R.vs ++ [.slice none 0 0] } i = R.v i := fun i hi => by
    have : i < R.vs.length := by rw [h.len]; exact hi
    simp [RLay.v, List.getElem?_append_left this]
  have vnew : RLay.v { R with fv := v', vs := R.vs ++ [.slice none 0 0] } st.files.length = .slice none 0 0 := by
    simp [RLay.v, ← h.len]
  have fold : ∀ i, i < st.files.length → St.file { st with files := st.files ++ [⟨[], 0⟩] } i = st.file i := fun i hi => by simp [St.file, List.getElem?_append_left hi]
  have fnew : St.file { st with files := st.files ++ [⟨[], 0⟩] } st.files.length = ⟨[], 0⟩ := by simp [St.file]
  have hlt : ∀ i, i < (St.files { st with files := st.files ++ [⟨[], 0⟩] }).length → i < st.files.length ∨ i = st.files.length := fun i hi => by simp at hi; omega
  refine ⟨?_, (Fr.of_grownBy hgr (fun k e => h.fpf k e)).setCell (.inl h.fpb) _⟩
  refine { cells := ?_, len := by simp [h.len], files := ?_, dir := ?_, sdir := ?_, row := ?_, sep := ?_, dsep := h.dsep, fpb := .inl h.fpb, fpf := ?_, fpd := fun k hk => .inl (h.fpd k hk), fps := fun k hk => .inl (h.fps k hk), fpr := ?_, fpl := fun k hk => hk.elim (fun e => by have := h.fpl k e; simp; omega) (fun e => e.2) }
  · have := (keep b hb (fun q hq => h.bf hq)).trans h.cells
    simp [World.setCell, Array.getElem?_modify, this, RCells]
  · show SRow _ 87 v' (filed (R.vs ++ [.slice none 0 0]) (st.files ++ [⟨[], 0⟩]))
    rw [filed_snoc h.len]
    exact hr.heap fun k hk => hne k (hvb k hk)
  · exact h.dir.heap fun k hk => (hne k (h.bd hk)).trans (keep k (h.dir.lt hk) (fun q hq e => h.fd hk (e ▸ hq)))
  · exact h.sdir.heap fun k hk => (hne k (h.bs hk)).trans (keep k (h.sdir.lt hk) (fun q hq e => h.fs hk (e ▸ hq)))
  · intro i hi
    rcases hlt i hi with hi | rfl
    · rw [vold i hi, fold i hi]
      exact BRow.heap (h.row i hi) fun k hk => (hne k (h.br hi hk)).trans (keep k (BRow.lt (h.row i hi) hk) (fun q hq e => h.fr hi hk (e ▸ hq)))
    · rw [vnew, fnew]; exact BRow.nil _
  · intro i j hi hj hij q hq
    rcases hlt i hi with hi | rfl
    · rcases hlt j hj with hj | rfl
      · rw [vold i hi] at hq; rw [vold j hj]; exact h.sep i j hi hj hij q hq
      · rw [vnew]; simp [Value.ownBlock]
    · rw [vnew] at hq; cases hq
  · intro k hk
    rcases hv with hv | hv
    · exact .inl (h.fpf k (by rw [← hv]; exact hk))
    · exact .inr ⟨hv k hk, by simpa using hr.lt hk⟩
  · intro i hi k hk
    rcases hlt i hi with hi | rfl
    · rw [vold i hi] at hk; exact .inl (h.fpr i hi k hk)
    · rw [vnew] at hk; cases hk
end
end Go.Proofs.Ytcaipccgphblnaa.Dk
