/- disk: New, Read, lay. -/
import Derived.Test.YtcaipccgphblnaaDirs
import Derived.WalkSpells
namespace Go.Proofs.Ytcaipccgphblnaa.Dk
open Go.RowKit Go.WideMaps Go.Proofs.YtcaipccgphblnaaW.PrintWords
set_option linter.unusedSimpArgs false
/-- 'append' to a row, at the operation. -/
theorem wpList_append_row {ops : Array Oper} {rest : List Oper} {o : Oper} {a : Act} {Q : Exit → Act → World → Prop} (w : World) (hgd : o.guard = none) (s x : Operand)
    (ho : o.op = .call { callee := .builtin .append, args := #[s, x], argTypes := #[29, 29] }) (v xv : Value) (xs ys : Bs) (hs : a.eval s = v) (hx : a.eval x = xv)
    (h : Row w v xs) (hsrc : Src w xv ys) (hl : xs.length + ys.length ≤ 140737488355328)
    (hK : ∀ (la : Option Addr) (cap : Nat) (w' : World), Row w' (.slice la (xs.length + ys.length) cap) (xs ++ ys) → w.grownBy w' v.ownBlock → ((Value.slice la (xs.length + ys.length) cap).ownBlock = v.ownBlock ∨ (Value.slice la (xs.length + ys.length) cap).ownBlock = some w.heap.size) →
      wpList Try.prog ops Q rest (a.put o.dst (.slice la (xs.length + ys.length) cap)) w') : wpList Try.prog ops Q (o :: rest) a w := by
  refine wpList_plain hgd fun K hKK => ?_
  obtain ⟨v', w', hr, h2, h3, h4⟩ := row_append o.type w v xv xs ys h hsrc hl
  obtain ⟨la, cap, hv, _⟩ := h2.form
  rw [List.length_append] at hv
  subst hv
  unfold Oper.wp execOp
  simp only [ho, resolve, invoke, builtin, Sem.run_bind, Sem.run_pure, Result.andThen_ok, List.map_toArray, List.map_cons, List.map_nil, hs, hx, hr]
  exact hKK _ _ (hK la cap w' h2 h3 h4)
theorem Src.form {w : World} {v : Value} {xs : Bs} (h : Src w v xs) : ∃ a cap, v = .slice a xs.length cap := by
  rcases h with ⟨rfl, rfl⟩ | ⟨a, cap, rfl, _⟩
  · exact ⟨none, 0, rfl⟩
  · exact ⟨_, cap, rfl⟩
theorem Src.cap {w : World} {a : Option Addr} {c : Nat} {xs : Bs} (h : Src w (.slice a xs.length c) xs) : xs.length ≤ c ∧ c ≤ maxLen := by
  rcases h with ⟨h, rfl⟩ | ⟨a, cap, h, hc, _⟩
  · cases h; exact ⟨Nat.le_refl _, Nat.zero_le _⟩
  · cases h; exact hc
theorem Src.below {w w' : World} {v : Value} {ys : Bs} (h : Src w v ys) (hb : Below w.heap.size w w') : Src w' v ys := by
  rcases h with h | ⟨a, cap, rfl, hcp, hc⟩
  · exact .inl h
  · exact .inr ⟨a, cap, rfl, hcp, fun j c hj => (hb.cell (World.block_lt_of_cell? w _ (hc j c hj))).trans (hc j c hj)⟩
theorem row_empty (w : World) : Row (w.alloc (.cells #[] 5)) (.slice (some ⟨w.heap.size, 0, none⟩) 0 0) [] :=
  .inr ⟨w.heap.size, 0, #[], rfl, heap_alloc_new w _, Nat.le_refl _, Nat.zero_le _, .inl rfl, rfl⟩
/-- slices.Clone of bytes. -/
theorem clone_bytes (v : Value) (xs : Bs) (w : World) (h : Src w v xs) (hl : xs.length ≤ 140737488355328) :
    Calls Try.prog 32 #[v] w fun e w' => ∃ v', e = .returned v' ∧ Row w' v' xs ∧ (∀ g, v'.ownBlock = some g → w.heap.size ≤ g) ∧ Below w.heap.size w w' := by
  rcases h with ⟨rfl, rfl⟩ | ⟨a, cap, rfl, hcp, hc⟩
  · clear hl
    have he := fun W : World => Lib.run_eql_slice_nil (P := Try.prog) W 29 5 none 0 0 0 0 Try.underlying29
    go_enter Try.func32, Try.ntmps32
    go_wp2_with (fail)
    go_ret
    exact ⟨_, rfl, .inl ⟨rfl, rfl⟩, (fun g hg => by cases hg), Below.refl _ _⟩
  · have hs : Src (w.alloc (.cells #[] 5)) (.slice (some a) xs.length cap) xs := Src.below (.inr ⟨a, cap, rfl, hcp, hc⟩) ((Below.refl _ _).alloc (Nat.le_refl _) _)
    have HS := Aside0.mk hs
    have HL := Aside0.mk (show ([] : Bs).length + xs.length ≤ 140737488355328 by simpa using hl)
    clear hs hc hl hcp
    have he := fun W : World => Lib.run_eql_slice_nil (P := Try.prog) W 29 5 (some a) xs.length cap 0 0 Try.underlying29
    go_enter Try.func32, Try.ntmps32
    go_wp2_with (at_builtin; refine wpList_append_row _ rfl _ _ rfl _ _ [] xs rfl rfl (row_empty _) HS.out HL.out ?_; intro la cap' w1 hr hg hat; simp only [List.nil_append, List.length_nil, Nat.zero_add] at hr hat)
    go_ret
    refine ⟨_, rfl, hr, fun g hg' => ?_, ((Below.refl _ _).alloc (Nat.le_refl _) _).grown hg (by simp) (fun k e => by cases e; exact Nat.le_refl _)⟩
    have hg2 : (Value.slice la xs.length cap').ownBlock = some g := hg'
    have hat2 : (Value.slice la xs.length cap').ownBlock = some w.heap.size ∨ (Value.slice la xs.length cap').ownBlock = some (w.alloc (.cells #[] 5)).heap.size := hat
    rw [World.size_alloc, hg2] at hat2
    rcases hat2 with e | e
    · cases e; exact Nat.le_refl _
    · cases e; omega
section
variable {L : Lay} {st : St} {fp : Nat → Prop} {b : Nat} {w : World}
theorem read_none (h : At L st fp b w) (n : ByteArray) (hn : n.size ≤ maxLen) (hf : find st.dir n.data.toList = none) :
    Calls Try.prog 17 #[.pointer (some ⟨b, 0, none⟩), .string n] w fun e w' => e = .returned (.tuple #[.slice none 0 0, .int .i64 172]) ∧ w' = w := by
  obtain ⟨v, hr, hv⟩ := dir_look h.dir n hn
  have hv0 : v = .pointer none := by
    rcases hv with hv | ⟨f, hf', _⟩
    · exact hv.2
    · rw [dirD_atKey, hf] at hf'; cases hf'
  subst hv0
  have c1 : w.cell? ⟨b, 1, none⟩ = some (.map (some L.m)) := by simp [World.cell?, h.cells, DCells]
  clear h hv hf hn
  go_enter Try.func17, Try.ntmps17
  go_wp2_with (fail)
  go_ret2
  exact ⟨rfl, rfl⟩
theorem look_found (h : At L st fp b w) (n : ByteArray) (hn : n.size ≤ maxLen) {i : Nat} (hf : find st.dir n.data.toList = some i) : (Instr.lookup 57 (.map (some L.m)) (.string n) false).run Try.prog w = .ok (.pointer (some ⟨L.blk i, 0, none⟩)) w := by
  obtain ⟨v, hr, hv⟩ := dir_look h.dir n hn
  have hv0 : v = .pointer (some ⟨L.blk i, 0, none⟩) := by
    rcases hv with hv | ⟨f', hf', hv⟩
    · rw [dirD_atKey, hf] at hv; cases hv.1
    · rw [dirD_atKey, hf] at hf'
      simp only [DataW.lit.injEq, Lit.int.injEq, true_and] at hf'
      rw [hv, Int.ofNat.inj hf']
  rw [← hv0]; exact hr
theorem look_none (h : At L st fp b w) (n : ByteArray) (hn : n.size ≤ maxLen) (hf : find st.dir n.data.toList = none) : (Instr.lookup 57 (.map (some L.m)) (.string n) false).run Try.prog w = .ok (.pointer none) w := by
  obtain ⟨v, hr, hv⟩ := dir_look h.dir n hn
  have hv0 : v = .pointer none := by
    rcases hv with hv | ⟨f, hf', _⟩
    · exact hv.2
    · rw [dirD_atKey, hf] at hf'; cases hf'
  rw [← hv0]; exact hr
theorem read_found (h : At L st fp b w) (n : ByteArray) (hn : n.size ≤ maxLen) {i : Nat} (hf : find st.dir n.data.toList = some i) (hl : st.len i ≤ 140737488355328) :
    Calls Try.prog 17 #[.pointer (some ⟨b, 0, none⟩), .string n] w fun e w' => ∃ v, e = .returned (.tuple #[v, .int .i64 0]) ∧ Row w' v (st.file i).b ∧ (∀ g, v.ownBlock = some g → w.heap.size ≤ g) ∧ Below w.heap.size w w' := by
  have hlk := look_found h n hn hf
  have hi := used_of_find hf
  have c1 : w.cell? ⟨b, 1, none⟩ = some (.map (some L.m)) := by simp [World.cell?, h.cells, DCells]
  have c2 : w.cell? ⟨L.blk i, 0, none⟩ = some (L.v i) := by simp [World.cell?, h.file i hi]
  have H := Aside0.mk (clone_bytes (L.v i) _ w (h.row i hi).src hl)
  clear h hf hn hl
  go_enter Try.func17, Try.ntmps17
  go_wp2_with (fail)
  refine H.out.mono ?_
  rintro e w2 ⟨v, rfl, h1, h2, h3⟩
  have H1 := Aside0.mk h1
  have H2 := Aside0.mk h2
  have H3 := Aside0.mk h3
  clear h1 h2 h3
  go_wp2_with (fail)
  go_ret2
  exact ⟨_, rfl, H1.out, H2.out, H3.out⟩
theorem new_at (n : Int) (hn : 0 ≤ n) (w : World) :
    Calls Try.prog 8 #[.int .i64 n] w fun e w' => ∃ L, e = .returned (.tuple #[.pointer (some ⟨w.heap.size + 2, 0, none⟩), .int .i64 0]) ∧ At L (newSt n) (fun k => w.heap.size ≤ k ∧ k < w.heap.size + 3) (w.heap.size + 2) w' ∧ Below w.heap.size w w' := by
  refine (new_calls n w (by omega)).mono ?_
  rintro e w' ⟨rfl, rfl⟩
  have e0 : ∀ o, (((w.alloc (.map #[] 0)).alloc (.map #[] 0)).alloc o).ownsMap Try.prog 9 Rf w.heap.size 0 (.map []) := fun o => ((World.ownsMap_made w Try.prog 9 Rf).alloc _).alloc _
  have e1 : ∀ o, (((w.alloc (.map #[] 0)).alloc (.map #[] 0)).alloc o).ownsMap Try.prog 9 Rf (w.heap.size + 1) 0 (.map []) := fun o => by
    have := (World.ownsMap_made (w.alloc (.map #[] 0)) Try.prog 9 Rf).alloc o
    rwa [World.size_alloc] at this
  have nu : ∀ i, ¬ St.used (newSt n) i := fun i hi => by simp [St.used, newSt] at hi
  refine ⟨⟨w.heap.size, w.heap.size + 1, fun _ => 0, fun _ => .slice none 0 0⟩, rfl, ?_, (((Below.refl _ _).alloc (Nat.le_refl _) _).alloc (by simp) _).alloc (by simp; omega) _⟩
  refine { cells := ?_, dir := e0 _, sdir := e1 _, ms := by simp, file := fun i hi => absurd hi (nu i), row := fun i hi => absurd hi (nu i), inj := fun i j hi => absurd hi (nu i), sep := fun i j hi => absurd hi (nu i), fpb := ⟨by omega, by omega⟩, fpm := ⟨Nat.le_refl _, by show w.heap.size < _; omega⟩, fps := ⟨by simp, by simp⟩, fpf := fun i hi => absurd hi (nu i), fpr := fun i hi => absurd hi (nu i), fpl := fun k hk => ?_ }
  · have := heap_alloc_new ((w.alloc (.map #[] 0)).alloc (.map #[] 0)) (DCells n (.map (some w.heap.size)) (.map (some (w.heap.size + 1))) false 0 false)
    rw [World.size_alloc, World.size_alloc] at this
    exact this
  · have h2 : k < w.heap.size + 3 := hk.2
    simp; omega
theorem lay_found (h : At L st fp b w) (hw : Wf st) (n : ByteArray) (hn : n.size ≤ maxLen) (x : Value) (ys : Bs) (hx : Src w x ys) {i : Nat} (hf : find st.dir n.data.toList = some i) (hl : st.len i + ys.length ≤ 140737488355328) :
    Calls Try.prog 23 #[.pointer (some ⟨b, 0, none⟩), .string n, x] w fun e w' => e = .returned (.tuple #[]) ∧ Nx (st.lay n.data.toList ys) fp b w w' := by
  have hlk := look_found h n hn hf
  have hi := used_of_find hf
  have hst : st.lay n.data.toList ys = st.upd i ⟨(st.file i).b ++ ys, (st.file i).safe⟩ := by simp [St.lay, hf]
  rw [hst]
  have c1 : w.cell? ⟨b, 1, none⟩ = some (.map (some L.m)) := by simp [World.cell?, h.cells, DCells]
  have hrow := h.row i hi
  obtain ⟨a, cap, hv, hc1, hc2⟩ := hrow.form
  have hfile := h.file i hi
  have hne : (L.v i).ownBlock ≠ some (L.blk i) := fun e => h.fr hi hi e rfl
  have c2 : w.cell? ⟨L.blk i, 0, none⟩ = some (.slice a (st.file i).b.length cap) := by simp [World.cell?, hfile, hv]
  rw [hv] at hrow hne
  have H := Aside0.mk h
  have HW := Aside0.mk hw
  have HR := Aside0.mk hrow
  have HX := Aside0.mk hx
  have HL := Aside0.mk (show (st.file i).b.length + ys.length ≤ 140737488355328 from hl)
  have HF := Aside0.mk hfile
  have HV := Aside0.mk hv
  have HI := Aside0.mk hi
  have HN := Aside0.mk hne
  clear h hf hn hl hw hrow hst hx hfile hv hc1 hc2 hi hne
  obtain ⟨xa, xc, rfl⟩ := HX.out.form
  go_enter Try.func23, Try.ntmps23
  go_wp2_with (at_builtin; refine wpList_append_row _ rfl _ _ rfl _ _ (st.file i).b ys rfl rfl HR.out HX.out HL.out ?_; intro la cap' w1 hr hg hat
               have hfile1 : w1.heap[L.blk i]? = some (.cells #[.slice a (st.file i).b.length cap, .int .i64 (st.file i).safe] 65 (0, 0)) := by rw [← HV.out]; exact (hg.block _ (H.out.lt_f HI.out) (fun e => HN.out e.symm)).trans HF.out
               have k1 : w1.cell? ⟨L.blk i, 0, none⟩ = some (.slice a (st.file i).b.length cap) := by simp [World.cell?, hfile1]
               have k2 : w1.frozen? ⟨L.blk i, 0, none⟩ = false := by simp [World.frozen?, hfile1]
               have HR1 := Aside0.mk hr; have HG := Aside0.mk hg; have HA := Aside0.mk hat; have HF1 := Aside0.mk hfile1; clear hr hg hat hfile1)
  go_end0
  have h := H.out
  have hi := HI.out
  have hg : w.grownBy w1 (L.v i).ownBlock := by rw [HV.out]; exact HG.out
  have ha : (Value.slice la ((st.file i).b.length + ys.length) cap').ownBlock = (L.v i).ownBlock ∨ (Value.slice la ((st.file i).b.length + ys.length) cap').ownBlock = some w.heap.size := by rw [HV.out]; exact HA.out
  have hr : Row w1 (.slice la ((st.file i).b.length + ys.length) cap') ((st.file i).b ++ ys) := HR1.out
  have hgb : ∀ g, (Value.slice la ((st.file i).b.length + ys.length) cap').ownBlock = some g → g ≠ L.blk i := fun g hg' e => by
    obtain ⟨cur, hc⟩ := hr.block hg'
    rw [e, HF1.out] at hc; simp at hc
  refine ⟨rfl, ⟨_, h.updF hi (file_lt HW.out hi) (f := ⟨(st.file i).b ++ ys, (st.file i).safe⟩) (v' := .slice la ((st.file i).b.length + ys.length) cap') (by simpa using hg.size) ?_ ?_ ?_ ?_⟩, (Fr.of_grownBy hg (fun k e => h.fpr i hi k e.symm.symm)).setCell (.inl (h.fpf i hi)) _⟩
  · exact ha.imp id (fun e g hg' => by rw [e] at hg'; cases hg'; exact Nat.le_refl _)
  · intro k hk1 hk2 hk3
    exact (Below.heap_setCell w1 _ _ k hk2).trans (hg.block k hk1 (fun e => hk3 e.symm))
  · simp [World.setCell, Array.getElem?_modify, HF1.out]
  · exact hr.heap fun g hg' => Below.heap_setCell w1 _ _ g (hgb g hg')
/-- A new file, under a name that was not there. -/
theorem At.newF (h : At L st fp b w) (hw : Wf st) {n : Bs} (bs : Bs) {w' : World} {v' : Value} {k : Nat} (hs : w.heap.size < w'.heap.size)
    (hv : ∀ g, v'.ownBlock = some g → w.heap.size < g)
    (hk : ∀ k, k < w.heap.size → k ≠ L.m → w'.heap[k]? = w.heap[k]?)
    (hf : w'.heap[w.heap.size]? = some (.cells #[v', .int .i64 0] 65 (0, 0))) (hr : Row w' v' bs)
    (hm : w'.ownsMap Try.prog 9 Rf L.m k ((dirD L.blk st.dir).put (.string n) (.lit (.int .i64 (w.heap.size : Nat))))) :
    ∃ L', At L' { st with files := st.files ++ [⟨bs, 0⟩], dir := put st.dir n st.files.length } (nfp fp w w') b w' := by
  have hnu : ∀ i, st.used i → i ≠ st.files.length := fun i hi => Nat.ne_of_lt (file_lt hw hi)
  have hu : ∀ i, St.used { st with files := st.files ++ [⟨bs, 0⟩], dir := put st.dir n st.files.length } i → st.used i ∨ i = st.files.length := fun i hi => by
    rcases hi with hi | hi
    · obtain ⟨p, hp, rfl⟩ := List.mem_map.1 hi
      rcases mem_put.1 hp with rfl | ⟨hp, _⟩
      · exact .inr rfl
      · exact .inl (.inl (List.mem_map.2 ⟨p, hp, rfl⟩))
    · exact .inl (.inr hi)
  have fold : ∀ i, st.used i → St.file { st with files := st.files ++ [⟨bs, 0⟩], dir := put st.dir n st.files.length } i = st.file i := fun i hi => by
    simp [St.file, List.getElem?_append_left (file_lt hw hi)]
  have fnew : St.file { st with files := st.files ++ [⟨bs, 0⟩], dir := put st.dir n st.files.length } st.files.length = ⟨bs, 0⟩ := by simp [St.file]
  have hmap : w'.ownsMap Try.prog 9 Rf L.m (put st.dir n st.files.length).length (dirD (fun j => if j = st.files.length then w.heap.size else L.blk j) (put st.dir n st.files.length)) := by
    have e1 : dirD L.blk st.dir = dirD (fun j => if j = st.files.length then w.heap.size else L.blk j) st.dir := dirD_congr fun i hi => by simp only [if_neg (hnu i (.inl hi))]
    have e2 := dirD_put (fun j => if j = st.files.length then w.heap.size else L.blk j) st.dir n st.files.length
    simp only [if_pos] at e2
    rw [e1, e2] at hm
    have := ownsMap_size hm
    rwa [dirD_size] at this
  have hsd : w'.ownsMap Try.prog 9 Rf L.s st.safe.length (dirD (fun j => if j = st.files.length then w.heap.size else L.blk j) st.safe) := by
    have e1 : dirD L.blk st.safe = dirD (fun j => if j = st.files.length then w.heap.size else L.blk j) st.safe := dirD_congr fun i hi => by simp only [if_neg (hnu i (.inr hi))]
    rw [← e1]
    exact ownsMap_heap h.sdir (hk _ h.sdir.lt h.ms.symm)
  refine ⟨⟨L.m, L.s, fun j => if j = st.files.length then w.heap.size else L.blk j, fun j => if j = st.files.length then v' else L.v j⟩, { cells := (hk b h.lt_b h.bm.symm).trans h.cells, dir := hmap, sdir := hsd, ms := h.ms, file := ?_, row := ?_, inj := ?_, sep := ?_, fpb := .inl h.fpb, fpm := .inl h.fpm, fps := .inl h.fps, fpf := ?_, fpr := ?_, fpl := fun k hk' => hk'.elim (fun e => Nat.lt_trans (h.fpl k e) hs) (fun e => e.2) }⟩
  · intro i hi
    rcases hu i hi with hi | rfl
    · simp only [if_neg (hnu i hi), fold i hi]
      exact (hk _ (h.lt_f hi) (h.mf hi)).trans (h.file i hi)
    · simp only [if_pos, fnew]; exact hf
  · intro i hi
    rcases hu i hi with hi | rfl
    · simp only [if_neg (hnu i hi), fold i hi]
      exact (h.row i hi).heap fun g hg => hk g ((h.row i hi).lt hg) (h.mr hi hg)
    · simp only [if_pos, fnew]; exact hr
  · intro i j hi hj e
    rcases hu i hi with hi | rfl <;> rcases hu j hj with hj | rfl
    · simp only [if_neg (hnu i hi), if_neg (hnu j hj)] at e; exact h.inj i j hi hj e
    · simp only [if_neg (hnu i hi), if_pos] at e; have := h.lt_f hi; omega
    · simp only [if_neg (hnu j hj), if_pos] at e; have := h.lt_f hj; omega
    · rfl
  · intro i j hi hj hij g hg
    rcases hu i hi with hi | rfl <;> rcases hu j hj with hj | rfl
    · simp only [if_neg (hnu i hi)] at hg; simp only [if_neg (hnu j hj)]; exact h.sep i j hi hj hij g hg
    · simp only [if_neg (hnu i hi)] at hg; simp only [if_pos]; intro e; have := hv g e; have := (h.row i hi).lt hg; omega
    · simp only [if_pos] at hg; simp only [if_neg (hnu j hj)]; intro e; have := hv g hg; have := (h.row j hj).lt e; omega
    · exact absurd rfl hij
  · intro i hi
    rcases hu i hi with hi | rfl
    · simp only [if_neg (hnu i hi)]; exact .inl (h.fpf i hi)
    · simp only [if_pos]; exact .inr ⟨Nat.le_refl _, hs⟩
  · intro i hi g hg
    rcases hu i hi with hi | rfl
    · simp only [if_neg (hnu i hi)] at hg; exact .inl (h.fpr i hi g hg)
    · simp only [if_pos] at hg; exact .inr ⟨Nat.le_of_lt (hv g hg), hr.lt hg⟩
end
end Go.Proofs.Ytcaipccgphblnaa.Dk
