/- disk: how a disk lies in memory. -/
import Derived.Test.YtcaipccgphblnaaRemove
import Derived.Maps.RangeWalk
namespace Go.Proofs.Ytcaipccgphblnaa.Dk
open Go.RowKit Go.WideMaps
set_option linter.unusedSimpArgs false
abbrev bv (c : UInt8) : Value := .int .u8 c.toNat
/-- A slice of bytes of the disk's own. -/
def Row (w : World) (v : Value) (xs : Bs) : Prop :=
  (v = .slice none 0 0 ∧ xs = []) ∨ ∃ g cap cur, v = .slice (some ⟨g, 0, none⟩) xs.length cap ∧ w.heap[g]? = some (.cells cur 5 (0, 0)) ∧ xs.length ≤ cap ∧ cap ≤ maxLen ∧
    (cur.size = cap ∨ (cap = xs.length ∧ cap ≤ cur.size)) ∧ cur.toList.take xs.length = xs.map bv
/-- A slice of bytes that is read. -/
def Src (w : World) (v : Value) (ys : Bs) : Prop :=
  (v = .slice none 0 0 ∧ ys = []) ∨ ∃ a cap, v = .slice (some a) ys.length cap ∧ (ys.length ≤ cap ∧ cap ≤ maxLen) ∧ ∀ j c, ys[j]? = some c → w.cell? (a.add j) = some (bv c)
theorem Row.heap {w w' : World} {v : Value} {xs : Bs} (h : Row w v xs) (hk : ∀ g, v.ownBlock = some g → w'.heap[g]? = w.heap[g]?) : Row w' v xs := by
  rcases h with h | ⟨g, cap, cur, rfl, hg, r⟩
  · exact .inl h
  · exact .inr ⟨g, cap, cur, rfl, (hk g rfl).trans hg, r⟩
theorem Row.block {w : World} {v : Value} {xs : Bs} (h : Row w v xs) {g : Nat} (hg : v.ownBlock = some g) : ∃ cur, w.heap[g]? = some (.cells cur 5 (0, 0)) := by
  rcases h with ⟨rfl, _⟩ | ⟨g', cap, cur, rfl, hg', r⟩
  · cases hg
  · cases hg; exact ⟨_, hg'⟩
theorem Row.lt {w : World} {v : Value} {xs : Bs} (h : Row w v xs) {g : Nat} (hg : v.ownBlock = some g) : g < w.heap.size := by
  obtain ⟨cur, hc⟩ := h.block hg
  exact (Array.getElem?_eq_some_iff.1 hc).1
theorem Row.form {w : World} {v : Value} {xs : Bs} (h : Row w v xs) : ∃ a cap, v = .slice a xs.length cap ∧ xs.length ≤ cap ∧ cap ≤ maxLen := by
  rcases h with ⟨rfl, rfl⟩ | ⟨g', cap, cur, rfl, hg', h1, h2, r⟩
  · exact ⟨none, 0, rfl, Nat.le_refl _, Nat.zero_le _⟩
  · exact ⟨_, cap, rfl, h1, h2⟩
theorem Row.src {w : World} {v : Value} {xs : Bs} (h : Row w v xs) : Src w v xs := by
  rcases h with h | ⟨g, cap, cur, rfl, hg, h1, h2, h3, h4⟩
  · exact .inl h
  · refine .inr ⟨_, cap, rfl, ⟨h1, h2⟩, fun j c hj => ?_⟩
    have hadd : (⟨g, 0, none⟩ : Addr).add j = ⟨g, j, none⟩ := by unfold Addr.add; split <;> simp_all
    rw [hadd, cell_of_row w g j cur 5 (0, 0) hg]
    have : (cur.toList.take xs.length)[j]? = some (bv c) := by rw [h4, List.getElem?_map, hj]; rfl
    rw [List.getElem?_take] at this
    split at this
    · simpa using this
    · cases this
theorem info5 : (Try.prog.info? 5).map (fun i => (i.zero, i.size, i.bytes)) = some (some (.int .u8 0), 1, 1) := by kernel_rfl
/-- 'append(v, x...)' to a row. -/
theorem row_append (ty : TypeId) (w : World) (v x : Value) (xs ys : Bs) (h : Row w v xs) (hx : Src w x ys) (hl : xs.length + ys.length ≤ 140737488355328) :
    ∃ v' w', (Builtin.append_ #[29, 29] ty #[v, x]).run Try.prog w = .ok v' w' ∧ Row w' v' (xs ++ ys) ∧ w.grownBy w' v.ownBlock ∧ (v'.ownBlock = v.ownBlock ∨ v'.ownBlock = some w.heap.size) := by
  obtain ⟨i0, hi, hz0, hz1, hz2⟩ := info_parts info5
  rcases hx with ⟨rfl, rfl⟩ | ⟨a, c, rfl, hcp, ha⟩
  · -- nothing is laid behind
    rcases h with ⟨rfl, rfl⟩ | ⟨g, cap, cur, rfl, hg, h1, h2, h3, h4⟩
    · refine ⟨.slice none 0 0, w, ?_, .inl ⟨rfl, rfl⟩, ⟨rfl, rfl, rfl, Nat.le_refl _, fun _ _ _ => rfl⟩, .inl rfl⟩
      simp [Builtin.append_, run_underlying Try.underlying29, sizeOf, typeInfo, hi, Builtin.lenOf, Builtin.firstCells, loadCells, loadCellsFrom]
    · refine ⟨.slice (some ⟨g, 0, none⟩) xs.length cap, w, ?_, .inr ⟨g, cap, cur, by simp, hg, by simpa using h1, h2, by simpa using h3, by simpa using h4⟩, ⟨rfl, rfl, rfl, Nat.le_refl _, fun _ _ _ => rfl⟩, .inl rfl⟩
      simp [Builtin.append_, run_underlying Try.underlying29, sizeOf, typeInfo, hi, Builtin.lenOf, Builtin.firstCells, loadCells, loadCellsFrom, storeCells, h1]
  · have hnews : ∀ j u, (ys.map bv)[j]? = some u → w.cell? (a.add j) = some u := fun j u hu => by
      rw [List.getElem?_map] at hu
      cases hj : ys[j]? with
      | none => rw [hj] at hu; cases hu
      | some d => rw [hj] at hu; cases hu; exact ha j d hj
    have own : ∀ v : Value, w.ownsRow 0 5 1 v xs.length (xs.map bv) → ∃ v' w', (Builtin.append_ #[29, 29] ty #[v, .slice (some a) ys.length c]).run Try.prog w = .ok v' w' ∧ Row w' v' (xs ++ ys) ∧ w.grownBy w' v.ownBlock ∧ (v'.ownBlock = v.ownBlock ∨ v'.ownBlock = some w.heap.size) := by
      intro v ho
      obtain ⟨v', w', hr, hown, hgr, _, hfr⟩ := run_append_own_at (P := Try.prog) w 0 29 ty 5 i0 (.int .u8 0) 1 1 Try.underlying29 hi hz0 hz1 hz2 rfl (by decide) v xs.length (xs.map bv) ho a ys.length c (ys.map bv) (by simp) hnews (by simp [Value.oneCell'])
        (by simp only [maxLen]; omega) (by omega) (Nat.zero_le _)
      refine ⟨v', w', hr, ?_, hgr, ?_⟩
      · rcases hown.2 with ⟨rfl, h0⟩ | ⟨g, cap, cur, rfl, _, hg, h1, h2, h3, h4⟩
        · exact .inl ⟨rfl, List.eq_nil_of_length_eq_zero (by simpa using h0)⟩
        · refine .inr ⟨g, cap, cur, by simp, hg, by simpa using h1, h2, .inl (by simpa using h3), by simpa using h4⟩
      · exact hfr
    rcases h with ⟨rfl, rfl⟩ | ⟨g, cap, cur, rfl, hg, h1, h2, h3, h4⟩
    · exact own _ ⟨rfl, .inl ⟨rfl, rfl⟩⟩
    · rcases h3 with h3 | ⟨h3, h5⟩
      · exact own _ ⟨by simp, .inr ⟨g, cap, cur, rfl, Nat.zero_le _, hg, h1, h2, by simpa using h3, by simpa using h4⟩⟩
      · subst h3
        have hs1 : i0.size = 1 := hz1
        have hb1 : i0.bytes = 1 := hz2
        by_cases hy : ys = []
        · subst hy
          have hr := run_append_room (P := Try.prog) w 29 ty 5 i0 Try.underlying29 hi g xs.length xs.length cur hg a 0 c [] (by simp) (by simp) (by simp) (by omega) (by rw [hs1]; simpa using h5)
          refine ⟨_, _, hr, .inr ⟨g, xs.length, _, by simp, setRow_heap w g cur _ 5 _ hg, by simp, h2, .inr ⟨by simp, ?_⟩, ?_⟩, ⟨rfl, rfl, rfl, by simp, fun k _ hk => setRow_other w g k _ (fun e => hk (by simp [Value.ownBlock, e]))⟩, .inl rfl⟩
          · simp only [List.append_nil, List.size_toArray, List.length_append, List.length_take, List.length_drop, Array.length_toList, hs1, List.length_nil]; omega
          · simp only [hs1, List.append_nil, Nat.mul_one, List.length_nil, Nat.add_zero, List.take_append_drop]; exact h4
        · have hpos : 0 < ys.length := List.length_pos_iff.2 hy
          have holds : ∀ j u, (xs.map bv)[j]? = some u → w.cell? ((⟨g, 0, none⟩ : Addr).add j) = some u := fun j u hj => by
            have hadd : (⟨g, 0, none⟩ : Addr).add j = ⟨g, j, none⟩ := by unfold Addr.add; split <;> simp_all
            rw [hadd, cell_of_row w g j cur 5 (0, 0) hg]
            rw [← h4, List.getElem?_take] at hj
            split at hj
            · simpa using hj
            · cases hj
          have hr := run_append_grow (P := Try.prog) w 29 ty 5 i0 (.int .u8 0) Try.underlying29 hi hz0 ⟨g, 0, none⟩ xs.length xs.length (xs.map bv) (by simp [hs1]) holds a ys.length c (ys.map bv) (by simp [hs1]) hnews (by omega) (by omega)
            (growslice_fits (by omega) (by rw [hb1]; omega))
          have hge := grownCap_ge w (xs.length + ys.length) xs.length 5
          have hcm : grownCap w (xs.length + ys.length) xs.length 5 ≤ maxLen := grownCap_le_maxLen w (xs.length + ys.length) xs.length 5 (by simp only [maxLen]; omega)
          refine ⟨_, _, hr, .inr ⟨w.heap.size, _, _, by simp, heap_alloc_new w.drew _, by simpa using hge, hcm, .inl ?_, ?_⟩, ⟨rfl, rfl, rfl, by simp, fun k hk _ => heap_alloc_old w.drew _ hk⟩, .inr rfl⟩
          · simp only [Array.size_append, List.size_toArray, size_zeroCells, List.length_map, Value.cells]
            simp; omega
          · simp only [Array.toList_append, List.append_assoc]
            rw [← List.append_assoc, ← List.map_append, List.take_append_of_le_length (by simp), List.take_of_length_le (by simp)]

/-- Where a disk's parts lie: its maps' blocks; of each file its block, and the slice of its bytes. -/
structure Lay where
  m : Nat
  s : Nat
  blk : Nat → Nat
  v : Nat → Value
/-- Block b of w is a disk that is st; all its blocks are among fp. -/
structure At (L : Lay) (st : St) (fp : Nat → Prop) (b : Nat) (w : World) : Prop where
  cells : w.heap[b]? = some (DCells st.room (.map (some L.m)) (.map (some L.s)) st.failing st.left st.torn)
  dir : w.ownsMap Try.prog 9 Rf L.m st.dir.length (dirD L.blk st.dir)
  sdir : w.ownsMap Try.prog 9 Rf L.s st.safe.length (dirD L.blk st.safe)
  ms : L.m ≠ L.s
  file : ∀ i, st.used i → w.heap[L.blk i]? = some (.cells #[L.v i, .int .i64 (st.file i).safe] 65 (0, 0))
  row : ∀ i, st.used i → Row w (L.v i) (st.file i).b
  inj : ∀ i j, st.used i → st.used j → L.blk i = L.blk j → i = j
  sep : ∀ i j, st.used i → st.used j → i ≠ j → ∀ g, (L.v i).ownBlock = some g → (L.v j).ownBlock ≠ some g
  fpb : fp b
  fpm : fp L.m
  fps : fp L.s
  fpf : ∀ i, st.used i → fp (L.blk i)
  fpr : ∀ i, st.used i → ∀ g, (L.v i).ownBlock = some g → fp g
  fpl : ∀ k, fp k → k < w.heap.size
theorem ownsMap_heap {w w' : World} {k : TypeId} {R : Value → Option (DataW Unit × List MemPlace)} {b n : Nat} {D : DataW Unit} (h : w.ownsMap Try.prog k R b n D) (hb : w'.heap[b]? = w.heap[b]?) : w'.ownsMap Try.prog k R b n D := by
  obtain ⟨es, clock, h1, h2⟩ := h
  exact ⟨es, clock, hb.trans h1, h2⟩
theorem ownsMap_map {w : World} {k : TypeId} {R : Value → Option (DataW Unit × List MemPlace)} {b n : Nat} {D : DataW Unit} (h : w.ownsMap Try.prog k R b n D) : ∃ es c, w.heap[b]? = some (.map es c) := by
  obtain ⟨es, clock, h1, h2⟩ := h
  exact ⟨es, clock, h1⟩
/-- The bound on a map's entries is how many it has. -/
theorem ownsMap_size {w : World} {k : TypeId} {R : Value → Option (DataW Unit × List MemPlace)} {b n : Nat} {D : DataW Unit} (h : w.ownsMap Try.prog k R b n D) : w.ownsMap Try.prog k R b (Maps.size D) D := by
  obtain ⟨es, clock, h1, F, h2, rfl⟩ := h
  refine ⟨es, clock, h1, F, ?_, rfl⟩
  simp [Maps.size, length_sorted]
/-- Nothing has turned but what lies outside. -/
structure Fr (fp : Nat → Prop) (w w' : World) : Prop where
  os : w'.os = w.os
  tape : w'.tape = w.tape
  output : w'.output = w.output
  size : w.heap.size ≤ w'.heap.size
  block : ∀ k, k < w.heap.size → ¬ fp k → w'.heap[k]? = w.heap[k]?
theorem Fr.refl (fp : Nat → Prop) (w : World) : Fr fp w w := ⟨rfl, rfl, rfl, Nat.le_refl _, fun _ _ _ => rfl⟩
theorem Fr.trans {fp fp' : Nat → Prop} {a b c : World} (h : Fr fp a b) (k : Fr fp' b c) (hf : ∀ i, i < a.heap.size → fp' i → fp i) : Fr fp a c :=
  ⟨k.os.trans h.os, k.tape.trans h.tape, k.output.trans h.output, Nat.le_trans h.size k.size, fun i hi hn => (k.block i (Nat.lt_of_lt_of_le hi h.size) (fun e => hn (hf i hi e))).trans (h.block i hi hn)⟩
theorem Fr.of_grownBy {fp : Nat → Prop} {w w' : World} {row : Option Nat} (h : w.grownBy w' row) (hr : ∀ k, row = some k → fp k) : Fr fp w w' :=
  ⟨h.os, h.tape, h.output, h.size, fun k hk hn => h.block k hk (fun e => hn (hr k e.symm))⟩
theorem Fr.of_but {fp : Nat → Prop} {w w' : World} {b : Nat} (h : But b w w') (hr : fp b) : Fr fp w w' :=
  ⟨h.os, h.tape, h.output, Nat.le_of_eq h.size.symm, fun k _ hn => h.block k (fun e => hn (e ▸ hr))⟩
theorem Fr.of_below {fp : Nat → Prop} {w w' : World} (h : Below w.heap.size w w') : Fr fp w w' :=
  ⟨h.os, h.tape, h.output, h.size, fun k hk _ => h.block k hk⟩
theorem Fr.setCell {fp : Nat → Prop} {w w' : World} (h : Fr fp w w') {p : Addr} (hp : fp p.block ∨ w.heap.size ≤ p.block) (v : Value) : Fr fp w (w'.setCell p v) :=
  ⟨h.os, h.tape, h.output, by simpa using h.size, fun k hk hn => (Below.heap_setCell w' p v k (fun e => by rcases hp with hp | hp; exact hn (e ▸ hp); omega)).trans (h.block k hk hn)⟩
theorem Fr.alloc {fp : Nat → Prop} {w w' : World} (h : Fr fp w w') (o : Obj) : Fr fp w (w'.alloc o) :=
  ⟨h.os, h.tape, h.output, by simp; have := h.size; omega, fun k hk hn => (Below.heap_alloc w' o k (by have := h.size; omega)).trans (h.block k hk hn)⟩
/-- The disk's blocks behind a call: those that it had, and new ones. -/
def nfp (fp : Nat → Prop) (w w' : World) : Nat → Prop := fun k => fp k ∨ (w.heap.size ≤ k ∧ k < w'.heap.size)
/-- Behind a call: the disk is st'; nothing that is not its own has turned. -/
def Nx (st' : St) (fp : Nat → Prop) (b : Nat) (w w' : World) : Prop := (∃ L', At L' st' (nfp fp w w') b w') ∧ Fr fp w w'
section
variable {L : Lay} {st : St} {fp : Nat → Prop} {b : Nat} {w : World}
theorem At.keep (h : At L st fp b w) {w' : World} (hs : w.heap.size ≤ w'.heap.size) (hk : ∀ k, fp k → w'.heap[k]? = w.heap[k]?) : At L st fp b w' :=
  { h with
    fpl := fun k hk' => Nat.lt_of_lt_of_le (h.fpl k hk') hs
    cells := (hk b h.fpb).trans h.cells
    dir := ownsMap_heap h.dir (hk _ h.fpm)
    sdir := ownsMap_heap h.sdir (hk _ h.fps)
    file := fun i hi => (hk _ (h.fpf i hi)).trans (h.file i hi)
    row := fun i hi => (h.row i hi).heap fun g hg => hk g (h.fpr i hi g hg) }
theorem At.mono (h : At L st fp b w) {fp' : Nat → Prop} (hf : ∀ k, fp k → fp' k) (hl : ∀ k, fp' k → k < w.heap.size) : At L st fp' b w :=
  { h with fpl := hl, fpb := hf _ h.fpb, fpm := hf _ h.fpm, fps := hf _ h.fps, fpf := fun i hi => hf _ (h.fpf i hi), fpr := fun i hi g hg => hf _ (h.fpr i hi g hg) }
theorem At.bm (h : At L st fp b w) : L.m ≠ b := fun e => by
  obtain ⟨es, c, hm⟩ := ownsMap_map h.dir
  rw [e, h.cells] at hm; cases hm
theorem At.bs (h : At L st fp b w) : L.s ≠ b := fun e => by
  obtain ⟨es, c, hm⟩ := ownsMap_map h.sdir
  rw [e, h.cells] at hm; cases hm
theorem At.bf (h : At L st fp b w) {i : Nat} (hi : st.used i) : L.blk i ≠ b := fun e => by
  have := h.file i hi
  rw [e, h.cells] at this
  simp [DCells] at this
theorem At.br (h : At L st fp b w) {i : Nat} (hi : st.used i) {g : Nat} (hg : (L.v i).ownBlock = some g) : g ≠ b := fun e => by
  obtain ⟨cur, hc⟩ := (h.row i hi).block hg
  rw [e, h.cells] at hc
  simp [DCells] at hc
theorem At.mf (h : At L st fp b w) {i : Nat} (hi : st.used i) : L.blk i ≠ L.m := fun e => by
  obtain ⟨es, c, hm⟩ := ownsMap_map h.dir
  rw [← e, h.file i hi] at hm; cases hm
theorem At.sf (h : At L st fp b w) {i : Nat} (hi : st.used i) : L.blk i ≠ L.s := fun e => by
  obtain ⟨es, c, hm⟩ := ownsMap_map h.sdir
  rw [← e, h.file i hi] at hm; cases hm
theorem At.mr (h : At L st fp b w) {i : Nat} (hi : st.used i) {g : Nat} (hg : (L.v i).ownBlock = some g) : g ≠ L.m := fun e => by
  obtain ⟨cur, hc⟩ := (h.row i hi).block hg
  obtain ⟨es, c, hm⟩ := ownsMap_map h.dir
  rw [← e, hc] at hm; cases hm
theorem At.sr (h : At L st fp b w) {i : Nat} (hi : st.used i) {g : Nat} (hg : (L.v i).ownBlock = some g) : g ≠ L.s := fun e => by
  obtain ⟨cur, hc⟩ := (h.row i hi).block hg
  obtain ⟨es, c, hm⟩ := ownsMap_map h.sdir
  rw [← e, hc] at hm; cases hm
theorem At.fr (h : At L st fp b w) {i j : Nat} (hi : st.used i) (hj : st.used j) {g : Nat} (hg : (L.v j).ownBlock = some g) : L.blk i ≠ g := fun e => by
  obtain ⟨cur, hc⟩ := (h.row j hj).block hg
  have := h.file i hi
  rw [e, hc] at this; simp at this
theorem At.lt_b (h : At L st fp b w) : b < w.heap.size := (Array.getElem?_eq_some_iff.1 h.cells).1
theorem At.lt_f (h : At L st fp b w) {i : Nat} (hi : st.used i) : L.blk i < w.heap.size := (Array.getElem?_eq_some_iff.1 (h.file i hi)).1
/-- The Disk's own cells have turned, its files and directories have not. -/
theorem At.turn (h : At L st fp b w) {w' : World} {f' : Bool} {l' : Int} {t' : Bool} (hb : But b w w') (hc : w'.heap[b]? = some (DCells st.room (.map (some L.m)) (.map (some L.s)) f' l' t')) :
    At L { st with failing := f', left := l', torn := t' } fp b w' :=
  { cells := hc
    dir := ownsMap_heap h.dir (hb.block _ h.bm)
    sdir := ownsMap_heap h.sdir (hb.block _ h.bs)
    ms := h.ms
    file := fun i hi => (hb.block _ (h.bf (i := i) hi)).trans (h.file i hi)
    row := fun i hi => (h.row i hi).heap fun g hg => hb.block g (h.br (i := i) hi hg)
    inj := h.inj
    sep := h.sep
    fpb := h.fpb
    fpm := h.fpm
    fps := h.fps
    fpf := h.fpf
    fpr := h.fpr
    fpl := fun k hk => by rw [hb.size]; exact h.fpl k hk }
/-- New blocks turn nothing. -/
theorem At.below (h : At L st fp b w) {w' : World} (hb : Below w.heap.size w w') : At L st fp b w' := h.keep hb.size fun k hk => hb.block k (h.fpl k hk)
theorem At.alloc (h : At L st fp b w) (o : Obj) : At L st fp b (w.alloc o) := h.below ((Below.refl _ _).alloc (Nat.le_refl _) o)
theorem At.nf (h : At L st fp b w) {w0 : World} (hs : w0.heap.size ≤ w.heap.size) (hf : ∀ k, fp k → k < w0.heap.size) : At L st (nfp fp w0 w) b w :=
  h.mono (fun k hk => .inl hk) (fun k hk => hk.elim (h.fpl k) (fun e => e.2))
theorem nfp_nfp {fp : Nat → Prop} {w w1 w2 : World} (h1 : w.heap.size ≤ w1.heap.size) (h2 : w1.heap.size ≤ w2.heap.size) : ∀ k, nfp (nfp fp w w1) w1 w2 k → nfp fp w w2 k := fun k hk => by
  rcases hk with (hk | hk) | hk
  · exact .inl hk
  · exact .inr ⟨hk.1, by omega⟩
  · exact .inr ⟨by omega, hk.2⟩
/-- Two calls, one behind the other. -/
theorem nx_trans {st2 : St} {w1 w2 : World} (h1 : Fr fp w w1) (h2 : Nx st2 (nfp fp w w1) b w1 w2) : Nx st2 fp b w w2 := by
  obtain ⟨⟨L', hA⟩, hF⟩ := h2
  refine ⟨⟨L', hA.mono (nfp_nfp h1.size hF.size) (fun k hk => ?_)⟩, h1.trans hF (fun i hi hk => ?_)⟩
  · exact hk.elim (fun e => hA.fpl k (.inl (.inl e))) (fun e => e.2)
  · exact hk.elim id (fun e => by omega)
theorem nx_of_but (h : At L st fp b w) {w' : World} {f' : Bool} {l' : Int} {t' : Bool} (hb : But b w w') (hc : w'.heap[b]? = some (DCells st.room (.map (some L.m)) (.map (some L.s)) f' l' t')) :
    Nx { st with failing := f', left := l', torn := t' } fp b w w' :=
  ⟨⟨L, (h.turn hb hc).nf (Nat.le_of_eq hb.size.symm) h.fpl⟩, Fr.of_but hb h.fpb⟩
end
end Go.Proofs.Ytcaipccgphblnaa.Dk
