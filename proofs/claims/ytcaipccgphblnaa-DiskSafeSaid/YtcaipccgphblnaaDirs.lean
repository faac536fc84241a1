/- disk: the calls that turn directories: Remove, Rename, Flush. -/
import Derived.Test.YtcaipccgphblnaaMeth
namespace Go.Proofs.Ytcaipccgphblnaa.Dk
open Go.RowKit Go.WideMaps Go.Proofs.YtcaipccgphblnaaW.PrintWords
set_option linter.unusedSimpArgs false
section
variable {L : Lay} {st : St} {fp : Nat → Prop} {b : Nat} {w : World}
/-- The directory's map has turned. -/
theorem At.updDir (h : At L st fp b w) {d' : Lk} {n : Nat} (hd : ∀ i, i ∈ d'.map (·.2) → st.used i) {w' : World} (hg : w.grownBy w' (some L.m)) (hm : w'.ownsMap Try.prog 9 Rf L.m n (dirD L.blk d')) :
    At L { st with dir := d' } (nfp fp w w') b w' := by
  have hu : ∀ i, St.used { st with dir := d' } i → st.used i := fun i hi => hi.elim (hd i) (fun e => .inr e)
  have hk : ∀ k, k < w.heap.size → k ≠ L.m → w'.heap[k]? = w.heap[k]? := fun k h1 h2 => hg.block k h1 (fun e => h2 (Option.some.inj e))
  exact { cells := (hk b h.lt_b h.bm.symm).trans h.cells
          dir := by have := ownsMap_size hm; rwa [dirD_size] at this
          sdir := ownsMap_heap h.sdir (hk _ h.sdir.lt h.ms.symm)
          ms := h.ms
          file := fun i hi => (hk _ (h.lt_f (hu i hi)) (h.mf (hu i hi))).trans (h.file i (hu i hi))
          row := fun i hi => (h.row i (hu i hi)).heap fun g hg' => hk g ((h.row i (hu i hi)).lt hg') (h.mr (hu i hi) hg')
          inj := fun i j hi hj => h.inj i j (hu i hi) (hu j hj)
          sep := fun i j hi hj => h.sep i j (hu i hi) (hu j hj)
          fpb := .inl h.fpb
          fpm := .inl h.fpm
          fps := .inl h.fps
          fpf := fun i hi => .inl (h.fpf i (hu i hi))
          fpr := fun i hi g hg' => .inl (h.fpr i (hu i hi) g hg')
          fpl := fun k hk' => hk'.elim (fun e => Nat.lt_of_lt_of_le (h.fpl k e) hg.size) (fun e => e.2) }
theorem used_del {n : Bs} {i : Nat} (hi : i ∈ (del st.dir n).map (·.2)) : st.used i := by
  obtain ⟨p, hp, rfl⟩ := List.mem_map.1 hi
  exact .inl (List.mem_map.2 ⟨p, (mem_del.1 hp).1, rfl⟩)
theorem remove_wrap (r : Int) (R : World → Prop) (n : ByteArray) (H : Calls Try.prog 28 #[.pointer (some ⟨b, 0, none⟩), .string n, .func (.func 29) #[] #[.pointer (some ⟨w.heap.size, 0, none⟩), .pointer (some ⟨w.heap.size + 1, 0, none⟩)]]
      ((w.alloc (.cells #[.pointer (some ⟨b, 0, none⟩)] 24)).alloc (.cells #[.string n] 9)) fun e w' => e = .returned (.int .i64 r) ∧ R w') :
    Calls Try.prog 12 #[.pointer (some ⟨b, 0, none⟩), .string n] w fun e w' => e = .returned (.int .i64 r) ∧ R w' := by
  have H := Aside0.mk H
  go_enter Try.func12, Try.ntmps12
  go_wp2_with (fail)
  refine H.out.mono ?_
  rintro e w2 ⟨rfl, h1⟩
  have H1 := Aside0.mk h1
  clear h1
  go_wp2_with (fail)
  go_ret
  exact ⟨rfl, H1.out⟩
theorem rename_wrap (r : Int) (R : World → Prop) (n t : ByteArray) (H : Calls Try.prog 28 #[.pointer (some ⟨b, 0, none⟩), .string n, .func (.func 31) #[] #[.pointer (some ⟨w.heap.size + 2, 0, none⟩), .pointer (some ⟨w.heap.size, 0, none⟩), .pointer (some ⟨w.heap.size + 1, 0, none⟩)]]
      (((w.alloc (.cells #[.pointer (some ⟨b, 0, none⟩)] 24)).alloc (.cells #[.string n] 9)).alloc (.cells #[.string t] 9)) fun e w' => e = .returned (.int .i64 r) ∧ R w') :
    Calls Try.prog 15 #[.pointer (some ⟨b, 0, none⟩), .string n, .string t] w fun e w' => e = .returned (.int .i64 r) ∧ R w' := by
  have H := Aside0.mk H
  go_enter Try.func15, Try.ntmps15
  go_wp2_with (fail)
  refine H.out.mono ?_
  rintro e w2 ⟨rfl, h1⟩
  have H1 := Aside0.mk h1
  clear h1
  go_wp2_with (fail)
  go_ret
  exact ⟨rfl, H1.out⟩
theorem nx_below {wb w' : World} {st' : St} (hb : Below w.heap.size w wb) (hx : Nx st' fp b wb w') : Nx st' fp b w w' := by
  refine nx_trans (Fr.of_below hb) ⟨?_, ⟨hx.2.os, hx.2.tape, hx.2.output, hx.2.size, fun k h1 h2 => hx.2.block k h1 (fun e => h2 (.inl e))⟩⟩
  obtain ⟨⟨L', hA'⟩, hF⟩ := hx
  exact ⟨L', hA'.mono (fun k hk => hk.elim (fun e => .inl (.inl e)) .inr) (fun k hk => hk.elim (fun e => e.elim (fun e => hA'.fpl k (.inl e)) (fun e => Nat.lt_of_lt_of_le e.2 hF.size)) (fun e => e.2))⟩
theorem remove_at (h : At L st fp b w) (hw : Wf st) (n : ByteArray) (hn : n.size ≤ maxLen) :
    Calls Try.prog 12 #[.pointer (some ⟨b, 0, none⟩), .string n] w fun e w' => e = .returned (.int .i64 (st.remove n.data.toList).1) ∧ Nx (st.remove n.data.toList).2 fp b w w' := by
  obtain ⟨wb, hwb⟩ : ∃ wb, (w.alloc (.cells #[.pointer (some ⟨b, 0, none⟩)] 24)).alloc (.cells #[.string n] 9) = wb := ⟨_, rfl⟩
  have hb2 : Below w.heap.size w wb := by rw [← hwb]; exact ((Below.refl _ _).alloc (Nat.le_refl _) _).alloc (by simp) _
  have hA := h.below hb2
  have hs : wb.heap.size = w.heap.size + 2 := by rw [← hwb]; simp
  have cx : wb.cell? ⟨w.heap.size, 0, none⟩ = some (.pointer (some ⟨b, 0, none⟩)) := by rw [← hwb]; simp
  have cy : wb.cell? ⟨w.heap.size + 1, 0, none⟩ = some (.string n) := by rw [← hwb]; simp
  have up : ∀ {st' : St} {w' : World}, Nx st' fp b wb w' → Nx st' fp b w w' := fun hx => nx_below hb2 hx
  refine remove_wrap _ _ n ?_
  rw [hwb]
  by_cases hok : st.ok = false
  · have hs : st.remove n.data.toList = (171, st.may) := by simp [St.remove, hok]
    rw [hs]
    exact (call_at_torn hA hw hok n _).mono fun _ _ ⟨he, hx⟩ => ⟨he, up hx⟩
  · have hok : st.ok = true := by simpa using hok
    cases hf : find st.dir n.data.toList with
    | none =>
      have hs : st.remove n.data.toList = (172, st.may) := by simp [St.remove, hok, hf]
      rw [hs]
      exact (call_at_none hA hw hok n hn hf _).mono fun _ _ ⟨he, hx⟩ => ⟨he, up hx⟩
    | some i =>
      have hst : st.remove n.data.toList = (0, { st.may with dir := del st.dir n.data.toList }) := by simp [St.remove, hok, hf]
      rw [hst]
      refine call_at_found hA hw hok n hn i hf 29 _ (enters_of Try.func29 (by kernel_rfl) rfl) _ ?_
      intro w1 h1 hb
      have hlt := h.fpl
      have c1 : w1.cell? ⟨b, 1, none⟩ = some (.map (some L.m)) := by simp [World.cell?, h1.cells, DCells]
      have hbm := h1.bm
      have hne : ∀ k, w.heap.size ≤ k → k ≠ L.m := fun k hk e => by have := hlt _ h.fpm; omega
      have hnb : ∀ k, w.heap.size ≤ k → k ≠ b := fun k hk e => by have := hlt _ h.fpb; omega
      have hs1 := hb.size
      refine (remove1 b w.heap.size (w.heap.size + 1) L.m _ (L.blk i) (dirD L.blk st.dir) n w1 h1.dir hn (hne _ (Nat.le_refl _)) (hne _ (by omega)) hbm.symm (by omega) (by omega) h1.lt_b
        ((World.cell?_of_block (hb.block w.heap.size (hnb _ (Nat.le_refl _)))).trans cx) ((World.cell?_of_block (hb.block (w.heap.size + 1) (hnb _ (by omega)))).trans cy) c1).mono ?_
      rintro e w2 ⟨rfl, k1, k2⟩
      rw [dirD_del] at k1
      have g2 : w1.grownBy w2 (some L.m) := ⟨k2.os, k2.tape, k2.output, k2.size, k2.block⟩
      refine ⟨⟨0, rfl⟩, rfl, up (nx_trans (Fr.of_but hb hA.fpb) ⟨⟨L, (h1.nf (w0 := wb) (Nat.le_of_eq hb.size.symm) hA.fpl).updDir (d' := del st.dir n.data.toList) (fun i hi => used_del hi) g2 k1⟩, Fr.of_grownBy g2 (fun k e => .inl (by cases e; exact h1.fpm))⟩)⟩

/-- What Rename hands on. -/
theorem rename1 (b x y z m n f : Nat) (D : DataW Unit) (na tb : ByteArray) (w : World) (hD : w.ownsMap Try.prog 9 Rf m n D) (hn : na.size ≤ maxLen) (ht : tb.size ≤ maxLen) (ht0 : tb.data.toList ≠ []) (hnl : n < maxLen) (hxm : x ≠ m) (hym : y ≠ m) (hzm : z ≠ m) (hbm : b ≠ m)
    (hx : x < w.heap.size) (hy : y < w.heap.size) (hz : z < w.heap.size) (hb : b < w.heap.size)
    (cx : w.cell? ⟨x, 0, none⟩ = some (.pointer (some ⟨b, 0, none⟩))) (cy : w.cell? ⟨y, 0, none⟩ = some (.string na)) (cz : w.cell? ⟨z, 0, none⟩ = some (.string tb)) (cd : w.cell? ⟨b, 1, none⟩ = some (.map (some m))) :
    Calls Try.prog 31 #[.pointer (some ⟨f, 0, none⟩), .pointer (some ⟨z, 0, none⟩), .pointer (some ⟨x, 0, none⟩), .pointer (some ⟨y, 0, none⟩)] w fun e w' => e = .returned (.int .i64 0) ∧
      w'.ownsMap Try.prog 9 Rf m (n + 1) ((D.del (.string na.data.toList)).put (.string tb.data.toList) (.lit (.int .i64 (f : Nat)))) ∧ w.drew.grownBy w' (some m) := by
  obtain ⟨w2, hrun, h1, h2⟩ := hD.drew.drop (Maps.string_keyed Try.underlying9) Try.underlying57 (key := .string na) (kl := .string na.data.toList) (by simp [keyOf, mapKey, Try.underlying9, hn]) 0
  obtain ⟨w3, hrun3, h3, h4⟩ := h1.drew.update (Maps.string_keyed Try.underlying9) Try.underlying57 hnl (key := .string tb) (kl := .string tb.data.toList) (val := .pointer (some ⟨f, 0, none⟩)) (d := .lit (.int .i64 (f : Nat))) (ps := []) (by simp [keyOf, mapKey, Try.underlying9, ht]) rfl
  have g := h2.grown
  have k1 : w2.cell? ⟨x, 0, none⟩ = some (.pointer (some ⟨b, 0, none⟩)) := (World.cell?_of_block (g.block x hx (fun e => hxm (Option.some.inj e)))).trans cx
  have k2 : w2.cell? ⟨y, 0, none⟩ = some (.string na) := (World.cell?_of_block (g.block y hy (fun e => hym (Option.some.inj e)))).trans cy
  have k3 : w2.cell? ⟨b, 1, none⟩ = some (.map (some m)) := (World.cell?_of_block (g.block b hb (fun e => hbm (Option.some.inj e)))).trans cd
  have k4 : w2.cell? ⟨z, 0, none⟩ = some (.string tb) := (World.cell?_of_block (g.block z hz (fun e => hzm (Option.some.inj e)))).trans cz
  have g' : w.drew.grownBy w3 (some m) := World.grownBy.trans g ⟨h4.os, h4.tape, h4.output, h4.size, h4.block⟩
  have q1 : w3.cell? ⟨x, 0, none⟩ = some (.pointer (some ⟨b, 0, none⟩)) := (World.cell?_of_block (g'.block x hx (fun e => hxm (Option.some.inj e)))).trans cx
  have q2 : w3.cell? ⟨z, 0, none⟩ = some (.string tb) := (World.cell?_of_block (g'.block z hz (fun e => hzm (Option.some.inj e)))).trans cz
  have q3 : w3.cell? ⟨b, 1, none⟩ = some (.map (some m)) := (World.cell?_of_block (g'.block b hb (fun e => hbm (Option.some.inj e)))).trans cd
  have HG := Aside0.mk g'
  clear g g' h2 h4
  have HD := Aside0.mk h3
  clear hD h1 h3
  have e0 : tb.toList.isEmpty = false := by rw [ByteArray.toList_eq]; cases h : tb.data.toList with | nil => exact absurd h ht0 | cons => rfl
  clear ht0 hnl ht hn
  go_enter Try.func31, Try.ntmps31
  go_wp2_with (fail)
  go_region_held3 (fun wx => wx.cell? ⟨x, 0, none⟩ = some (.pointer (some ⟨b, 0, none⟩)) ∧ wx.cell? ⟨y, 0, none⟩ = some (.string na) ∧ wx.cell? ⟨b, 1, none⟩ = some (.map (some m))) (first | exact ⟨k1, k2, k3⟩ | exact ⟨cx, cy, cd⟩ | go_keep) (fail)
  all_goals go_wp2
  go_region_held3 (fun wx => wx.cell? ⟨x, 0, none⟩ = some (.pointer (some ⟨b, 0, none⟩)) ∧ wx.cell? ⟨z, 0, none⟩ = some (.string tb) ∧ wx.cell? ⟨b, 1, none⟩ = some (.map (some m))) (first | exact ⟨q1, q2, q3⟩ | exact ⟨k1, k4, k3⟩ | go_keep) (fail)
  all_goals go_wp2
  go_ret
  exact ⟨rfl, HD.out, HG.out⟩
theorem rename0 (x y z f : Nat) (tb : ByteArray) (w : World) (ht0 : tb.data.toList = []) (cz : w.cell? ⟨z, 0, none⟩ = some (.string tb)) :
    Calls Try.prog 31 #[.pointer (some ⟨f, 0, none⟩), .pointer (some ⟨z, 0, none⟩), .pointer (some ⟨x, 0, none⟩), .pointer (some ⟨y, 0, none⟩)] w fun e w' => e = .returned (.int .i64 2) ∧ w' = w := by
  have e0 : tb.toList.isEmpty = true := by rw [ByteArray.toList_eq, ht0]; rfl
  clear ht0
  go_enter Try.func31, Try.ntmps31
  go_wp2_with (fail)
  go_ret
  exact ⟨rfl, rfl⟩
theorem cell_of_new (w : World) (x : Value) (t : Nat) : (w.alloc (.cells #[x] t)).cell? ⟨w.heap.size, 0, none⟩ = some x := by simp
theorem cell_three2 (w : World) (o1 o2 : Obj) (x : Value) (t : Nat) : (((w.alloc o1).alloc o2).alloc (.cells #[x] t)).cell? ⟨w.heap.size + 2, 0, none⟩ = some x := by
  have := cell_of_new ((w.alloc o1).alloc o2) x t
  rwa [World.size_alloc, World.size_alloc] at this
theorem cell_three1 (w : World) (o1 : Obj) (x : Value) (t : Nat) (c : Array Value) (t2 : Nat) (p : Nat × Nat) : (((w.alloc o1).alloc (.cells #[x] t)).alloc (.cells c t2 p)).cell? ⟨w.heap.size + 1, 0, none⟩ = some x := by
  rw [World.cell?_of_block (w := (w.alloc o1).alloc (.cells #[x] t)) (Below.heap_alloc _ _ _ (by simp))]
  have := cell_of_new (w.alloc o1) x t
  rwa [World.size_alloc] at this
theorem cell_three0 (w : World) (x : Value) (t : Nat) (c : Array Value) (t2 : Nat) (p : Nat × Nat) (c' : Array Value) (t3 : Nat) (p' : Nat × Nat) : (((w.alloc (.cells #[x] t)).alloc (.cells c t2 p)).alloc (.cells c' t3 p')).cell? ⟨w.heap.size, 0, none⟩ = some x := by
  rw [World.cell?_of_block (w := (w.alloc (.cells #[x] t)).alloc (.cells c t2 p)) (Below.heap_alloc _ _ _ (by simp; omega)), World.cell?_of_block (w := w.alloc (.cells #[x] t)) (Below.heap_alloc _ _ _ (by simp))]
  exact cell_of_new w x t
theorem rename_at (h : At L st fp b w) (hw : Wf st) (n t : ByteArray) (hn : n.size ≤ maxLen) (ht : t.size ≤ maxLen) (hfew : st.dir.length < maxLen) :
    Calls Try.prog 15 #[.pointer (some ⟨b, 0, none⟩), .string n, .string t] w fun e w' => e = .returned (.int .i64 (st.rename n.data.toList t.data.toList).1) ∧ Nx (st.rename n.data.toList t.data.toList).2 fp b w w' := by
  obtain ⟨wb, hwb⟩ : ∃ wb, ((w.alloc (.cells #[.pointer (some ⟨b, 0, none⟩)] 24)).alloc (.cells #[.string n] 9)).alloc (.cells #[.string t] 9) = wb := ⟨_, rfl⟩
  have hb2 : Below w.heap.size w wb := by rw [← hwb]; exact (((Below.refl _ _).alloc (Nat.le_refl _) _).alloc (by simp) _).alloc (by simp; omega) _
  have hA := h.below hb2
  have hs : wb.heap.size = w.heap.size + 3 := by rw [← hwb]; simp
  have cx : wb.cell? ⟨w.heap.size, 0, none⟩ = some (.pointer (some ⟨b, 0, none⟩)) := by rw [← hwb]; exact cell_three0 _ _ _ _ _ _ _ _ _
  have cy : wb.cell? ⟨w.heap.size + 1, 0, none⟩ = some (.string n) := by rw [← hwb]; exact cell_three1 _ _ _ _ _ _ _
  have cz : wb.cell? ⟨w.heap.size + 2, 0, none⟩ = some (.string t) := by rw [← hwb]; exact cell_three2 _ _ _ _ _
  have up : ∀ {st' : St} {w' : World}, Nx st' fp b wb w' → Nx st' fp b w w' := fun hx => nx_below hb2 hx
  refine rename_wrap _ _ n t ?_
  rw [hwb]
  by_cases hok : st.ok = false
  · have hs : st.rename n.data.toList t.data.toList = (171, st.may) := by simp [St.rename, hok]
    rw [hs]
    exact (call_at_torn hA hw hok n _).mono fun _ _ ⟨he, hx⟩ => ⟨he, up hx⟩
  · have hok : st.ok = true := by simpa using hok
    cases hf : find st.dir n.data.toList with
    | none =>
      have hs : st.rename n.data.toList t.data.toList = (172, st.may) := by simp [St.rename, hok, hf]
      rw [hs]
      exact (call_at_none hA hw hok n hn hf _).mono fun _ _ ⟨he, hx⟩ => ⟨he, up hx⟩
    | some i =>
      have hi := used_of_find hf
      have hlt := h.fpl
      have hne : ∀ k, w.heap.size ≤ k → k ≠ L.m := fun k hk e => by have := hlt _ h.fpm; omega
      have hnb : ∀ k, w.heap.size ≤ k → k ≠ b := fun k hk e => by have := hlt _ h.fpb; omega
      by_cases h0 : t.data.toList = []
      · have hst : st.rename n.data.toList t.data.toList = (2, st.may) := by simp [St.rename, hok, hf, h0]
        rw [hst]
        refine call_at_found hA hw hok n hn i hf 31 _ (enters_of Try.func31 (by kernel_rfl) rfl) _ ?_
        intro w1 h1 hb
        refine (rename0 w.heap.size (w.heap.size + 1) (w.heap.size + 2) (L.blk i) t w1 h0 ((World.cell?_of_block (hb.block (w.heap.size + 2) (hnb _ (by omega)))).trans cz)).mono ?_
        rintro e w2 ⟨rfl, rfl⟩
        exact ⟨⟨2, rfl⟩, rfl, up ⟨⟨L, h1.nf (w0 := wb) (Nat.le_of_eq hb.size.symm) hA.fpl⟩, Fr.of_but hb hA.fpb⟩⟩
      · have hst : st.rename n.data.toList t.data.toList = (0, { st.may with dir := put (del st.dir n.data.toList) t.data.toList i }) := by simp [St.rename, hok, hf, h0]
        rw [hst]
        refine call_at_found hA hw hok n hn i hf 31 _ (enters_of Try.func31 (by kernel_rfl) rfl) _ ?_
        intro w1 h1 hb
        have c1 : w1.cell? ⟨b, 1, none⟩ = some (.map (some L.m)) := by simp [World.cell?, h1.cells, DCells]
        have hbm := h1.bm
        have hs1 := hb.size
        refine (rename1 b w.heap.size (w.heap.size + 1) (w.heap.size + 2) L.m _ (L.blk i) (dirD L.blk st.dir) n t w1 h1.dir hn ht h0 hfew (hne _ (Nat.le_refl _)) (hne _ (by omega)) (hne _ (by omega)) hbm.symm (by omega) (by omega) (by omega) h1.lt_b
          ((World.cell?_of_block (hb.block w.heap.size (hnb _ (Nat.le_refl _)))).trans cx) ((World.cell?_of_block (hb.block (w.heap.size + 1) (hnb _ (by omega)))).trans cy) ((World.cell?_of_block (hb.block (w.heap.size + 2) (hnb _ (by omega)))).trans cz) c1).mono ?_
        rintro e w2 ⟨rfl, k1, k2⟩
        rw [dirD_del, dirD_put] at k1
        have g2 : w1.grownBy w2 (some L.m) := ⟨k2.os, k2.tape, k2.output, k2.size, k2.block⟩
        refine ⟨⟨0, rfl⟩, rfl, up (nx_trans (Fr.of_but hb hA.fpb) ⟨⟨L, (h1.nf (w0 := wb) (Nat.le_of_eq hb.size.symm) hA.fpl).updDir (d' := put (del st.dir n.data.toList) t.data.toList i) (fun j hj => ?_) g2 k1⟩, Fr.of_grownBy g2 (fun k e => .inl (by cases e; exact h1.fpm))⟩)⟩
        obtain ⟨p, hp, rfl⟩ := List.mem_map.1 hj
        rcases mem_put.1 hp with rfl | ⟨hp, _⟩
        · exact hi
        · exact .inl (List.mem_map.2 ⟨p, (mem_del.1 hp).1, rfl⟩)
theorem flush_torn (h : At L st fp b w) (hw : Wf st) (hok : st.ok = false) :
    Calls Try.prog 11 #[.pointer (some ⟨b, 0, none⟩)] w fun e w' => e = .returned (.int .i64 171) ∧ Nx st.may fp b w w' := by
  have H := Aside0.mk (may_at h hw)
  have hfb := h.fpb
  have HL := Aside0.mk h.fpl
  clear h hw
  go_enter Try.func11, Try.ntmps11
  go_wp2_with (fail)
  refine H.out.mono ?_
  rintro e w1 ⟨rfl, hA, hb⟩
  rw [hok]
  have HA := Aside0.mk hA
  have HB := Aside0.mk hb
  clear hA hb
  go_wp2_with (fail)
  go_ret
  exact ⟨rfl, ⟨L, HA.out.nf (Nat.le_of_eq HB.out.size.symm) HL.out⟩, Fr.of_but HB.out hfb⟩
theorem flush_at (h : At L st fp b w) (hw : Wf st) :
    Calls Try.prog 11 #[.pointer (some ⟨b, 0, none⟩)] w fun e w' => e = .returned (.int .i64 st.flush.1) ∧ Nx st.flush.2 fp b w w' := by
  by_cases hok : st.ok = false
  · have hs : st.flush = (171, st.may) := by simp [St.flush, hok]
    rw [hs]; exact flush_torn h hw hok
  · have hs : st.flush = (0, { st.may with safe := st.dir }) := by simp [St.flush, hok]
    have hok : st.ok = true := by simpa using hok
    rw [hs]
    refine (flush_calls b L.m _ st.room _ _ st.failing st.left st.torn w hw.left h.bm h.cells hok h.dir).mono ?_
    rintro e w' ⟨rfl, hc, h1, h2, ho⟩
    have hu : ∀ i, St.used { st.may with safe := st.dir } i → st.used i := fun i hi => .inl (hi.elim id id)
    have hlt := h.fpl
    have hk : ∀ k, fp k → k ≠ b → w'.heap[k]? = w.heap[k]? := fun k h1 h2 => ho.block k (hlt k h1) h2
    refine ⟨rfl, ⟨{ L with s := w.heap.size }, ?_⟩, ⟨ho.os, ho.tape, ho.output, ho.size, fun k hk' hn => ho.block k hk' (fun e => hn (e ▸ h.fpb))⟩⟩
    have hsl : w.heap.size < w'.heap.size := h1.lt
    exact { cells := hc
            dir := h2
            sdir := h1
            ms := fun e => by have := hlt _ h.fpm; simp only at e; omega
            file := fun i hi => (hk _ (h.fpf i (hu i hi)) (h.bf (hu i hi))).trans (h.file i (hu i hi))
            row := fun i hi => (h.row i (hu i hi)).heap fun g hg' => hk g (h.fpr i (hu i hi) g hg') (h.br (hu i hi) hg')
            inj := fun i j hi hj => h.inj i j (hu i hi) (hu j hj)
            sep := fun i j hi hj => h.sep i j (hu i hi) (hu j hj)
            fpb := .inl h.fpb
            fpm := .inl h.fpm
            fps := .inr ⟨Nat.le_refl _, hsl⟩
            fpf := fun i hi => .inl (h.fpf i (hu i hi))
            fpr := fun i hi g hg' => .inl (h.fpr i (hu i hi) g hg')
            fpl := fun k hk' => hk'.elim (fun e => Nat.lt_of_lt_of_le (hlt k e) ho.size) (fun e => e.2) }
end
end Go.Proofs.Ytcaipccgphblnaa.Dk
